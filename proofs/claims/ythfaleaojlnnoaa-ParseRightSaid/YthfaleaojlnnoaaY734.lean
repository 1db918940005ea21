/- Some texts of the library, one behind the other. -/
import Derived.Test.YthfaleaojlnnoaaY7PgA
import Derived.Test.YthfaleaojlnnoaaY712
import Derived.Test.YthfaleaojlnnoaaY79
import Derived.Test.YthfaleaojlnnoaaY72
set_option linter.unusedSimpArgs false
set_option linter.unusedVariables false
section
namespace Go.Proofs.Ythfaleaojlnnoaa
namespace Pa
open Go Go.Sx
mutual
def SpT (ts:List Lx.Tok):Tr→Int→Int→Prop
 | .mk _ _ _ a l,i,j=>∃ m,i≤m∧m<j∧a=posT ts m∧SpL ts l m j
def SpL (ts:List Lx.Tok):List Tr→Int→Int→Prop
 | [],i,j=>i≤j
 | t::r,i,j=>∃ e,SpT ts t i e∧SpL ts r e j
end
section
variable {ts:List Lx.Tok}
theorem spT_mk {k a i j:Int} {w:List (List UInt8)} {n:List Int} {l:List Tr}:SpT ts (.mk k w n a l) i j↔∃ m,i≤m∧m<j∧a=posT ts m∧SpL ts l m j:=by rw [SpT]
theorem spL_nil {i j:Int}:SpL ts [] i j↔i≤j:=by rw [SpL]
theorem spL_cons {i j:Int} {t:Tr} {r:List Tr}:SpL ts (t::r) i j↔∃ e,SpT ts t i e∧SpL ts r e j:=by rw [SpL]
theorem qqi {j k:Int} (hk:j≤k):∀ (l:List Tr) (i:Int),SpL ts l i j→SpL ts l i k
 | [],_,h=>spL_nil.2 (Int.le_trans (spL_nil.1 h) hk)
 | t::r,i,h=>by
  obtain ⟨e,h1,h2⟩:=spL_cons.1 h
  exact spL_cons.2 ⟨e,h1,qqi hk r e h2⟩
theorem qno {t:Tr} {i i' j j':Int} (h:SpT ts t i j) (hi:i'≤i) (hj:j≤j'):SpT ts t i' j':=by
 cases t with
 | mk k w n a l=>
  obtain ⟨m,h1,h2,h3,h4⟩:=spT_mk.1 h
  exact spT_mk.2 ⟨m,by omega,by omega,h3,qqi hj _ _ h4⟩
theorem qux {t:Tr} {i j:Int} (h:SpT ts t i j):∃ m,i≤m∧m<j∧t.at_=posT ts m∧SpT ts t m j:=by
 cases t with
 | mk k w n a l=>
  obtain ⟨m,h1,h2,h3,h4⟩:=spT_mk.1 h
  exact ⟨m,h1,h2,h3,spT_mk.2 ⟨m,zk _,h2,h3,h4⟩⟩
theorem qlh {t:Tr} {i j:Int} (h:SpT ts t i j):i<j:=by
 obtain ⟨m,h1,h2,_⟩:=qux h
 omega
theorem qli:∀ (l:List Tr) (i j:Int),Seq (fun i j t=>SpT ts t i j) i j l→SpL ts l i j
 | [],_,_,h=>spL_nil.2 h
 | _::r,_,_,⟨_,b,h1,h2,h3⟩=>spL_cons.2 ⟨b,qno h2 h1 (zk _),qli r _ _ h3⟩
theorem qlj:∀ (l:List Tr) (i j:Int),SpL ts l i j→i≤j
 | [],_,_,h=>spL_nil.1 h
 | _::r,_,_,h=>by
  obtain ⟨e,h1,h2⟩:=spL_cons.1 h
  have:=qlh h1
  have:=qlj r _ _ h2
  omega
theorem quy:∀ (l r:List Tr) (i j k:Int),SpL ts l i j→SpL ts r j k→SpL ts (l++r) i k
 | [],r,i,j,k,h,h'=>by
  cases r with
  | nil=>exact spL_nil.2 (Int.le_trans (spL_nil.1 h) (spL_nil.1 h'))
  | cons t r=>
   obtain ⟨e,h1,h2⟩:=spL_cons.1 h'
   exact spL_cons.2 ⟨e,qno h1 (spL_nil.1 h) (zk _),h2⟩
 | t::l,r,i,j,k,h,h'=>by
  obtain ⟨e,h1,h2⟩:=spL_cons.1 h
  exact spL_cons.2 ⟨e,h1,quy l r e j k h2 h'⟩
theorem qjl {k i j:Int} {w:List (List UInt8)} {n:List Int} (h:i<j):SpT ts (.mk k w n (posT ts i) []) i j:=spT_mk.2 ⟨i,zk _,h,rfl,spL_nil.2 (Int.le_of_lt h)⟩
theorem qfh {k i i' j:Int} {w:List (List UInt8)} {n:List Int} {l:List Tr} (h:i<i') (hl:SpL ts l i' j):SpT ts (.mk k w n (posT ts i) l) i j:=by
 have h1:=qlj _ _ _ hl
 refine spT_mk.2 ⟨i,zk _,by omega,rfl,?_⟩
 have:=quy [] l i i' j (spL_nil.2 (Int.le_of_lt h)) hl
 exact this
theorem qlk {i j j':Int} {t:Tr} (h:SpT ts t i j') (hj:j'≤j):SpL ts [t] i j:=spL_cons.2 ⟨j',h,spL_nil.2 hj⟩
theorem qqj {i j j' k:Int} {t u:Tr} (h:SpT ts t i j) (hj:j≤j') (h':SpT ts u j' k):SpL ts [t,u] i k:=spL_cons.2 ⟨j,h,qlk (qno h' hj (zk _)) (zk _)⟩
def spanA (ts:List Lx.Tok):Alg ts where
 E i j t:=SpT ts t i j
 S i j t:=SpT ts t i j
 B i j t:=SpT ts t i j
 V i j t:=SpT ts t i j
 I i j t:=SpT ts t i j
 rNum _ _ h:=qjl h
 rName _ _ h:=qjl h
 rUn _ h ht hj:=qfh h (qlk ht hj)
 rPar h ht hj:=qno ht h hj
 rBin:=by
  intro i j j' k sg a b _ _ ha hj hb
  obtain ⟨m,h1,h2,h3,h4⟩:=qux ha
  have h5:=qlh hb
  unfold binT
  exact spT_mk.2 ⟨m,h1,by omega,h3,qqj h4 hj hb⟩
 rSet _ _ h ht hj:=qfh h (qlk ht hj)
 rRecv _ _ _ _ h:=qjl h
 rWhen _ _ h ht hj:=qfh h (qlk ht hj)
 rChoose _ _ h hl _:=qfh h (qli _ _ _ hl)
 rIf h he hj hb:=qfh h (qqj he hj hb)
 rIfE h he hj hb hk hc:=qfh h (spL_cons.2 ⟨_,he,qqj (qno hb hj (zk _)) hk hc⟩)
 rWhile h he hj hb:=qfh h (qqj he hj hb)
 rAtom h hb:=qfh h (qlk hb (zk _))
 rBare _ h:=qjl h
 rBlock h hl hj:=qfh h (qqi hj _ _ (qli _ _ _ hl))
 rVar _ _ _ _ _ h:=qjl h
 rIVar h:=h
 rChan _ _ _ _ _ _ _ _ _ h:=qjl h
 rProc _ _ _ h hv hs hk:=qfh h (quy _ _ _ _ _ (qli _ _ _ hv) (qqi hk _ _ (qli _ _ _ hs)))
 rSafe h ht hj:=qfh h (qlk ht hj)
 rDead h:=qjl h
theorem jbv (ht:ToksOk ts) {p:Ps} (h:AtOk ts p) (he:(qaj ts p).2.err=0):∃ l j,(qaj ts p).1=.mk 0 [] [] (posT ts p.at_) l∧SpL ts l p.at_ j∧j<ts.length:=by
 obtain ⟨l,h1,h2⟩:=jbu ht (spanA ts) h he
 exact ⟨l,_,h1,qli _ _ _ h2,(qnf ht ts.length [] p h).hi⟩
end
theorem joj:∀ (n:Nat) (l:List UInt8) (p:Nat) (ts:List Lx.Tok),l.length≤n→Lx.lexR l p=.ok ts→(∀ t∈ts,(p:Int)≤t.pos∧t.pos≤p+l.length)∧ts.Pairwise (fun a b=>a.pos<b.pos):=by
 intro n
 induction n with
 | zero=>
  intro l p ts hl h
  obtain rfl:l=[]:=List.length_eq_zero_iff.1 (by omega)
  rw [Lx.lexR_nil] at h
  cases h
  exact ⟨fun t ht=>by rw [List.mem_singleton.1 ht];simp,List.pairwise_singleton _ _⟩
 | succ n ih=>
  intro l p ts hl h
  cases l with
  | nil=>
   rw [Lx.lexR_nil] at h
   cases h
   exact ⟨fun t ht=>by rw [List.mem_singleton.1 ht];simp,List.pairwise_singleton _ _⟩
  | cons b r=>
   have hr:r.length≤n:=by simpa using hl
   rw [Lx.lexR_cons] at h
   split at h
   ·obtain ⟨h1,h2⟩:=ih r _ ts hr h
    refine ⟨fun t ht=>?_,h2⟩
    have:=h1 t ht
    simp only [zq];omega
   split at h
   ·obtain ⟨h1,h2⟩:=ih (r.drop (Lx.lineN r)) _ ts (by rw [zr];omega) h
    have hle:Lx.lineN r≤r.length:=Lx.spanN_le _ r
    refine ⟨fun t ht=>?_,h2⟩
    have:=h1 t ht
    rw [zr] at this
    simp only [zq];omega
   split at h
   ·cases h
   ·rename_i h0
    cases hx:Lx.lexR (r.drop (Lx.firstN (b::r) - 1)) (p+Lx.firstN (b::r)) with
    | error e=>rw [hx] at h;cases h
    | ok ts'=>
     rw [hx] at h
     cases h
     obtain ⟨h1,h2⟩:=ih (r.drop (Lx.firstN (b::r) - 1)) _ ts' (by rw [zr];omega) hx
     have hle:Lx.firstN (b::r)≤(b::r).length:=Lx.firstN_le b r
     simp only [zq] at hle
     refine ⟨fun t ht=>?_,List.pairwise_cons.2 ⟨fun t ht=>?_,h2⟩⟩
     ·rcases List.mem_cons.1 ht with rfl|ht
      ·simp only [zq];omega
      ·have:=h1 t ht
       rw [zr] at this
       simp only [zq];omega
     ·have:=h1 t ht
      show (p:Int)<t.pos
      omega
end Pa
end Go.Proofs.Ythfaleaojlnnoaa
end
section
namespace Go.Proofs.Ythfaleaojlnnoaa
namespace Pa
open Go Go.Sx
theorem jbw {s:List UInt8} (h:(Lx.lexAll s).2.1=0):(∀ t∈(Lx.lexAll s).1,0≤t.pos∧t.pos≤s.length)∧(Lx.lexAll s).1.Pairwise (fun a b=>a.pos<b.pos):=by
 unfold Lx.lexAll at h ⊢
 split at h
 ·simp at h
 rename_i hs
 rw [za hs]
 split at h
 ·rename_i ts hts
  have:=joj _ s 0 ts (zi _) hts
  refine ⟨fun t ht=>?_,this.2⟩
  have:=this.1 t ht
  omega
 ·simp at h
section
variable {ts:List Lx.Tok} {N:Int}
theorem qnp {i:Int} (h0:0≤i) (h1:i<ts.length):∃ t∈ts,posT ts i=t.pos:=by
 refine ⟨ts[i.toNat]'(by omega),xt _,?_⟩
 unfold posT
 rw [List.getD_eq_getElem?_getD,ze (by omega)]
 rfl
mutual
theorem deepT_le (hN:0≤N) (hp:∀ t∈ts,t.pos≤N):∀ (t:Tr) (n i j:Int),SpT ts t i j→0≤i→j≤ts.length→deepT t n≤N
 | .mk k w ns a l,n,i,j,h,h0,hj=>by
  obtain ⟨m,h1,h2,h3,h4⟩:=spT_mk.1 h
  rw [deepT]
  split
  ·obtain ⟨t,ht,e⟩:=qnp (ts:=ts) (i:=m) (by omega) (by omega)
   have:=hp t ht
   omega
  ·exact deepL_le hN hp l n m j h4 (by omega) hj
theorem deepL_le (hN:0≤N) (hp:∀ t∈ts,t.pos≤N):∀ (l:List Tr) (n i j:Int),SpL ts l i j→0≤i→j≤ts.length→deepL l n≤N
 | [],n,i,j,h,h0,hj=>by rw [deepL];omega
 | t::r,n,i,j,h,h0,hj=>by
  obtain ⟨e,h1,h2⟩:=spL_cons.1 h
  have h3:=qlh h1
  have h4:=qlj _ _ _ h2
  rw [deepL]
  split
  ·exact deepT_le hN hp t (n+1) i e h1 h0 (by omega)
  ·exact deepL_le hN hp r n e j h2 (by omega) hj
end
end
mutual
def Tr.allT (Q:Tr→Prop):Tr→Prop
 | .mk k w n a l=>Q (.mk k w n a l)∧Tr.allL Q l
def Tr.allL (Q:Tr→Prop):List Tr→Prop
 | []=>True
 | t::r=>t.allT Q∧Tr.allL Q r
end
structure NdOf (L:List Nd) (nd:Nd) (u:Tr):Prop where
 kind:nd.kind=u.kind
 words:nd.words=u.words
 nums:nd.nums=u.nums
 at_:nd.at_=u.at_
 kids:nd.kids.map (fun k=>((L.getD k.toNat nd0).kind,(L.getD k.toNat nd0).at_))=u.l.map (fun v=>(v.kind,v.at_))
theorem jok (n:Nat) (t:Tr):∃ x r,layT n t=x::r∧x.kind=t.kind∧x.at_=t.at_:=by
 cases t with
 | mk k w ns a l=>rw [layT];exact ⟨_,_,rfl,rfl,rfl⟩
mutual
theorem lay_lenT:∀ (n:Nat) (t:Tr),(layT n t).length=t.size
 | n,.mk k w ns a l=>by rw [layT,Tr.size,zq,lay_lenL (n+1) l];omega
theorem lay_lenL:∀ (n:Nat) (l:List Tr),(layL n l).length=Tr.sizeL l
 | _,[]=>rfl
 | n,t::r=>by rw [layL,Tr.sizeL,xa,lay_lenT n t,lay_lenL (n+t.size) r]
end
mutual
theorem layT_of {Q:Tr→Prop} (L:List Nd):∀ (t:Tr) (n:Nat) (pre post:List Nd),L=pre++(layT n t++post)→pre.length=n→t.allT Q→∀ nd∈layT n t,∃ u,Q u∧NdOf L nd u
 | .mk k w ns a l,n,pre,post,hL,hn,hq,nd,hm=>by
  rw [Tr.allT] at hq
  have h1:=layL_of (Q:=Q) L l (n+1) (pre++[⟨k,w,ns,qx (n+1) l,a⟩]) post (by rw [hL,layT];simp) (by simp [hn]) hq.2
  rw [layT] at hm
  rcases List.mem_cons.1 hm with rfl|hm
  ·exact ⟨_,hq.1,rfl,rfl,rfl,rfl,h1.2⟩
  ·exact h1.1 nd hm
theorem layL_of {Q:Tr→Prop} (L:List Nd):∀ (l:List Tr) (n:Nat) (pre post:List Nd),L=pre++(layL n l++post)→pre.length=n→Tr.allL Q l→
  (∀ nd∈layL n l,∃ u,Q u∧NdOf L nd u)∧(qx n l).map (fun k=>((L.getD k.toNat nd0).kind,(L.getD k.toNat nd0).at_))=l.map (fun v=>(v.kind,v.at_))
 | [],n,pre,post,hL,hn,hq=>⟨fun nd hm=>by rw [layL] at hm;simp at hm,rfl⟩
 | t::r,n,pre,post,hL,hn,hq=>by
  rw [Tr.allL] at hq
  have h1:=layT_of (Q:=Q) L t n pre (layL (n+t.size) r++post) (by rw [hL,layL];simp) hn hq.1
  have h2:=layL_of (Q:=Q) L r (n+t.size) (pre++layT n t) post (by rw [hL,layL];simp) (by rw [xa,lay_lenT,hn]) hq.2
  refine ⟨fun nd hm=>?_,?_⟩
  ·rw [layL] at hm
   rcases List.mem_append.1 hm with hm|hm
   ·exact h1 nd hm
   ·exact h2.1 nd hm
  ·obtain ⟨x,xs,e,e1,e2⟩:=jok n t
   have hx:L.getD n nd0=x:=by
    rw [hL,layL,e,List.getD_eq_getElem?_getD,zm (by omega),hn,xy]
    rfl
   rw [qx,xp,xp,h2.2,Int.toNat_natCast,hx,e1,e2]
end
end Pa
end Go.Proofs.Ythfaleaojlnnoaa
end
section
namespace Go.Proofs.Ythfaleaojlnnoaa
namespace Pa
open Go Go.Sx
theorem qnq (t:Tr):0<t.size:=by
 cases t with
 | mk k w n a l=>rw [Tr.size];omega
mutual
theorem walkT_lay (L:List Nd):∀ (t:Tr) (f n:Nat) (pre post:List Nd) (d:Int),L=pre++(layT n t++post)→pre.length=n→t.allT (fun u=>0≤u.at_)→d+f=21→¬ 0≤deepT t d→Go.St.walkF L f n=(((n+t.size:Nat):Int),true)
 | .mk k w ns a l,f,n,pre,post,d,hL,hn,hq,hf,hd=>by
  rw [Tr.allT] at hq
  rw [deepT] at hd
  split at hd
  ·exact absurd hq.1 hd
  rename_i h20
  obtain ⟨g,rfl⟩:∃ g,f=g+1:=⟨f - 1,by omega⟩
  have hx:L.getD n nd0=⟨k,w,ns,qx (n+1) l,a⟩:=by
   rw [hL,layT,List.getD_eq_getElem?_getD,zm (by omega),hn,xy]
   rfl
  have h1:=walkL_lay L l g (n+1) (pre++[⟨k,w,ns,qx (n+1) l,a⟩]) post d (by rw [hL,layT];simp) (by simp [hn]) hq.2 (by omega) hd
  rw [Go.St.walkF,Int.toNat_natCast,hx]
  rw [Tr.size]
  have e:((n:Int)+1)=((n+1:Nat):Int):=by omega
  rw [e]
  refine h1.trans ?_
  rw [show n+1+Tr.sizeL l=n+(1+Tr.sizeL l) by omega]
theorem walkL_lay (L:List Nd):∀ (l:List Tr) (g m:Nat) (pre post:List Nd) (d:Int),L=pre++(layL m l++post)→pre.length=m→Tr.allL (fun u=>0≤u.at_) l→d+g=20→¬ 0≤deepL l d→Go.St.walkL (Go.St.walkF L g) L.length (qx m l) m=(((m+Tr.sizeL l:Nat):Int),true)
 | [],g,m,pre,post,d,hL,hn,hq,hf,hd=>by rw [qx,Go.St.walkL,Tr.sizeL,xf]
 | t::r,g,m,pre,post,d,hL,hn,hq,hf,hd=>by
  rw [Tr.allL] at hq
  rw [deepL] at hd
  split at hd
  ·rename_i h1
   exact absurd h1 hd
  rename_i h1
  have h2:=walkT_lay L t g m pre (layL (m+t.size) r++post) (d+1) (by rw [hL,layL];simp) hn hq.1 (by omega) h1
  have h3:=walkL_lay L r g (m+t.size) (pre++layT m t) post d (by rw [hL,layL];simp) (by rw [xa,lay_lenT,hn]) hq.2 hf hd
  have hl:L.length=m+(t.size+(layL (m+t.size) r).length+post.length):=by
   rw [hL,layL]
   simp only [xa,lay_lenT,hn]
  have h4:=qnq t
  rw [qx,Go.St.walkL,za (by omega),h2]
  simp only [Bool.true_eq_false,if_false]
  rw [h3,Tr.sizeL,zad]
end
theorem jol (t:Tr) (hq:t.allT (fun u=>0≤u.at_)) (hd:¬ 0≤deepT t 1):Go.St.walkF (layT 0 t) 20 0=(((layT 0 t).length:Int),true):=by
 have:=walkT_lay (layT 0 t) t 20 0 [] [] 1 (by simp) rfl hq (by decide) hd
 rw [lay_lenT]
 simpa using this
section
variable {ts:List Lx.Tok}
mutual
theorem spT_nonneg (hp:∀ t∈ts,0≤t.pos):∀ (t:Tr) (i j:Int),SpT ts t i j→0≤i→j≤ts.length→t.allT (fun u=>0≤u.at_)
 | .mk k w ns a l,i,j,h,h0,hj=>by
  obtain ⟨m,h1,h2,h3,h4⟩:=spT_mk.1 h
  rw [Tr.allT]
  refine ⟨?_,spL_nonneg hp l m j h4 (by omega) hj⟩
  obtain ⟨t,ht,e⟩:=qnp (ts:=ts) (i:=m) (by omega) (by omega)
  have:=hp t ht
  show 0≤a
  omega
theorem spL_nonneg (hp:∀ t∈ts,0≤t.pos):∀ (l:List Tr) (i j:Int),SpL ts l i j→0≤i→j≤ts.length→Tr.allL (fun u=>0≤u.at_) l
 | [],i,j,h,h0,hj=>by rw [Tr.allL];trivial
 | t::r,i,j,h,h0,hj=>by
  obtain ⟨e,h1,h2⟩:=spL_cons.1 h
  have h3:=qlh h1
  have h4:=qlj _ _ _ h2
  rw [Tr.allL]
  exact ⟨spT_nonneg hp t i e h1 h0 (by omega),spL_nonneg hp r e j h2 (by omega) hj⟩
end
end
end Pa
end Go.Proofs.Ythfaleaojlnnoaa
end
