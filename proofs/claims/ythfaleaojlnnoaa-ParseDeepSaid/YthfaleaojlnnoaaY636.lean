/- Some texts of the library, one behind the other. -/
import Derived.Test.YthfaleaojlnnoaaY6PgA
import Derived.Test.YthfaleaojlnnoaaY617
import Derived.Test.YthfaleaojlnnoaaY616
import Derived.Test.YthfaleaojlnnoaaY62
set_option linter.unusedSimpArgs false
set_option linter.unusedVariables false
section
namespace Go.Proofs.Ythfaleaojlnnoaa
namespace Pa
open Go Go.Sx
mutual
def SpT (ts:List Lx.Tok):Tr→Int→Int→Prop
 | .mk _ _ _ a l,i,j=>∃ m,i≤m∧m<j∧a=posT ts m∧SpL ts l m j
def SpL (ts:List Lx.Tok):List Tr→Int→Int→Prop
 | [],i,j=>i≤j
 | t::r,i,j=>∃ e,SpT ts t i e∧SpL ts r e j
end
section
variable {ts:List Lx.Tok}
theorem spT_mk {k a i j:Int} {w:List (List UInt8)} {n:List Int} {l:List Tr}:SpT ts (.mk k w n a l) i j↔∃ m,i≤m∧m<j∧a=posT ts m∧SpL ts l m j:=by rw [SpT]
theorem spL_nil {i j:Int}:SpL ts [] i j↔i≤j:=by rw [SpL]
theorem spL_cons {i j:Int} {t:Tr} {r:List Tr}:SpL ts (t::r) i j↔∃ e,SpT ts t i e∧SpL ts r e j:=by rw [SpL]
theorem qre {j k:Int} (hk:j≤k):∀ (l:List Tr) (i:Int),SpL ts l i j→SpL ts l i k
 | [],_,h=>spL_nil.2 (Int.le_trans (spL_nil.1 h) hk)
 | t::r,i,h=>by
  obtain ⟨e,h1,h2⟩:=spL_cons.1 h
  exact spL_cons.2 ⟨e,h1,qre hk r e h2⟩
theorem qof {t:Tr} {i i' j j':Int} (h:SpT ts t i j) (hi:i'≤i) (hj:j≤j'):SpT ts t i' j':=by
 cases t with
 | mk k w n a l=>
  obtain ⟨m,h1,h2,h3,h4⟩:=spT_mk.1 h
  exact spT_mk.2 ⟨m,by omega,by omega,h3,qre hj _ _ h4⟩
theorem qvs {t:Tr} {i j:Int} (h:SpT ts t i j):∃ m,i≤m∧m<j∧t.at_=posT ts m∧SpT ts t m j:=by
 cases t with
 | mk k w n a l=>
  obtain ⟨m,h1,h2,h3,h4⟩:=spT_mk.1 h
  exact ⟨m,h1,h2,h3,spT_mk.2 ⟨m,zm _,h2,h3,h4⟩⟩
theorem qma {t:Tr} {i j:Int} (h:SpT ts t i j):i<j:=by
 obtain ⟨m,h1,h2,_⟩:=qvs h
 omega
theorem qmb:∀ (l:List Tr) (i j:Int),Seq (fun i j t=>SpT ts t i j) i j l→SpL ts l i j
 | [],_,_,h=>spL_nil.2 h
 | _::r,_,_,⟨_,b,h1,h2,h3⟩=>spL_cons.2 ⟨b,qof h2 h1 (zm _),qmb r _ _ h3⟩
theorem qmc:∀ (l:List Tr) (i j:Int),SpL ts l i j→i≤j
 | [],_,_,h=>spL_nil.1 h
 | _::r,_,_,h=>by
  obtain ⟨e,h1,h2⟩:=spL_cons.1 h
  have:=qma h1
  have:=qmc r _ _ h2
  omega
theorem qvt:∀ (l r:List Tr) (i j k:Int),SpL ts l i j→SpL ts r j k→SpL ts (l++r) i k
 | [],r,i,j,k,h,h'=>by
  cases r with
  | nil=>exact spL_nil.2 (Int.le_trans (spL_nil.1 h) (spL_nil.1 h'))
  | cons t r=>
   obtain ⟨e,h1,h2⟩:=spL_cons.1 h'
   exact spL_cons.2 ⟨e,qof h1 (spL_nil.1 h) (zm _),h2⟩
 | t::l,r,i,j,k,h,h'=>by
  obtain ⟨e,h1,h2⟩:=spL_cons.1 h
  exact spL_cons.2 ⟨e,h1,qvt l r e j k h2 h'⟩
theorem qke {k i j:Int} {w:List (List UInt8)} {n:List Int} (h:i<j):SpT ts (.mk k w n (posT ts i) []) i j:=spT_mk.2 ⟨i,zm _,h,rfl,spL_nil.2 (Int.le_of_lt h)⟩
theorem qfw {k i i' j:Int} {w:List (List UInt8)} {n:List Int} {l:List Tr} (h:i<i') (hl:SpL ts l i' j):SpT ts (.mk k w n (posT ts i) l) i j:=by
 have h1:=qmc _ _ _ hl
 refine spT_mk.2 ⟨i,zm _,by omega,rfl,?_⟩
 have:=qvt [] l i i' j (spL_nil.2 (Int.le_of_lt h)) hl
 exact this
theorem qmd {i j j':Int} {t:Tr} (h:SpT ts t i j') (hj:j'≤j):SpL ts [t] i j:=spL_cons.2 ⟨j',h,spL_nil.2 hj⟩
theorem qrf {i j j' k:Int} {t u:Tr} (h:SpT ts t i j) (hj:j≤j') (h':SpT ts u j' k):SpL ts [t,u] i k:=spL_cons.2 ⟨j,h,qmd (qof h' hj (zm _)) (zm _)⟩
def spanA (ts:List Lx.Tok):Alg ts where
 E i j t:=SpT ts t i j
 S i j t:=SpT ts t i j
 B i j t:=SpT ts t i j
 V i j t:=SpT ts t i j
 I i j t:=SpT ts t i j
 rNum _ _ h:=qke h
 rName _ _ h:=qke h
 rUn _ h ht hj:=qfw h (qmd ht hj)
 rPar h ht hj:=qof ht h hj
 rBin:=by
  intro i j j' k sg a b _ _ ha hj hb
  obtain ⟨m,h1,h2,h3,h4⟩:=qvs ha
  have h5:=qma hb
  unfold binT
  exact spT_mk.2 ⟨m,h1,by omega,h3,qrf h4 hj hb⟩
 rSet _ _ h ht hj:=qfw h (qmd ht hj)
 rRecv _ _ _ _ h:=qke h
 rWhen _ _ h ht hj:=qfw h (qmd ht hj)
 rChoose _ _ h hl _:=qfw h (qmb _ _ _ hl)
 rIf h he hj hb:=qfw h (qrf he hj hb)
 rIfE h he hj hb hk hc:=qfw h (spL_cons.2 ⟨_,he,qrf (qof hb hj (zm _)) hk hc⟩)
 rWhile h he hj hb:=qfw h (qrf he hj hb)
 rAtom h hb:=qfw h (qmd hb (zm _))
 rBare _ h:=qke h
 rBlock h hl hj:=qfw h (qre hj _ _ (qmb _ _ _ hl))
 rVar _ _ _ _ _ h:=qke h
 rIVar h:=h
 rChan _ _ _ _ _ _ _ _ _ h:=qke h
 rProc _ _ _ h hv hs hk:=qfw h (qvt _ _ _ _ _ (qmb _ _ _ hv) (qre hk _ _ (qmb _ _ _ hs)))
 rSafe h ht hj:=qfw h (qmd ht hj)
 rDead h:=qke h
theorem jcr (ht:ToksOk ts) {p:Ps} (h:AtOk ts p) (he:(jk ts p).2.err=0):∃ l j,(jk ts p).1=.mk 0 [] [] (posT ts p.at_) l∧SpL ts l p.at_ j∧j<ts.length:=by
 obtain ⟨l,h1,h2⟩:=jcq ht (spanA ts) h he
 exact ⟨l,_,h1,qmb _ _ _ h2,(qnu ht ts.length [] p h).hi⟩
end
theorem jpl:∀ (n:Nat) (l:List UInt8) (p:Nat) (ts:List Lx.Tok),l.length≤n→Lx.lexR l p=.ok ts→(∀ t∈ts,(p:Int)≤t.pos∧t.pos≤p+l.length)∧ts.Pairwise (fun a b=>a.pos<b.pos):=by
 intro n
 induction n with
 | zero=>
  intro l p ts hl h
  obtain rfl:l=[]:=List.length_eq_zero_iff.1 (by omega)
  rw [Lx.lexR_nil] at h
  cases h
  exact ⟨fun t ht=>by rw [List.mem_singleton.1 ht];simp,List.pairwise_singleton _ _⟩
 | succ n ih=>
  intro l p ts hl h
  cases l with
  | nil=>
   rw [Lx.lexR_nil] at h
   cases h
   exact ⟨fun t ht=>by rw [List.mem_singleton.1 ht];simp,List.pairwise_singleton _ _⟩
  | cons b r=>
   have hr:r.length≤n:=by simpa using hl
   rw [Lx.lexR_cons] at h
   split at h
   ·obtain ⟨h1,h2⟩:=ih r _ ts hr h
    refine ⟨fun t ht=>?_,h2⟩
    have:=h1 t ht
    simp only [zn];omega
   split at h
   ·obtain ⟨h1,h2⟩:=ih (r.drop (Lx.lineN r)) _ ts (by rw [zp];omega) h
    have hle:Lx.lineN r≤r.length:=Lx.spanN_le _ r
    refine ⟨fun t ht=>?_,h2⟩
    have:=h1 t ht
    rw [zp] at this
    simp only [zn];omega
   split at h
   ·cases h
   ·rename_i h0
    cases hx:Lx.lexR (r.drop (Lx.firstN (b::r) - 1)) (p+Lx.firstN (b::r)) with
    | error e=>rw [hx] at h;cases h
    | ok ts'=>
     rw [hx] at h
     cases h
     obtain ⟨h1,h2⟩:=ih (r.drop (Lx.firstN (b::r) - 1)) _ ts' (by rw [zp];omega) hx
     have hle:Lx.firstN (b::r)≤(b::r).length:=Lx.firstN_le b r
     simp only [zn] at hle
     refine ⟨fun t ht=>?_,List.pairwise_cons.2 ⟨fun t ht=>?_,h2⟩⟩
     ·rcases List.mem_cons.1 ht with rfl|ht
      ·simp only [zn];omega
      ·have:=h1 t ht
       rw [zp] at this
       simp only [zn];omega
     ·have:=h1 t ht
      show (p:Int)<t.pos
      omega
end Pa
end Go.Proofs.Ythfaleaojlnnoaa
end
section
namespace Go.Proofs.Ythfaleaojlnnoaa
namespace Pa
open Go Go.Sx
theorem jcs {s:List UInt8} (h:(Lx.lexAll s).2.1=0):(∀ t∈(Lx.lexAll s).1,0≤t.pos∧t.pos≤s.length)∧(Lx.lexAll s).1.Pairwise (fun a b=>a.pos<b.pos):=by
 unfold Lx.lexAll at h ⊢
 split at h
 ·simp at h
 rename_i hs
 rw [za hs]
 split at h
 ·rename_i ts hts
  have:=jpl _ s 0 ts (zh _) hts
  refine ⟨fun t ht=>?_,this.2⟩
  have:=this.1 t ht
  omega
 ·simp at h
section
variable {ts:List Lx.Tok} {N:Int}
theorem qog {i:Int} (h0:0≤i) (h1:i<ts.length):∃ t∈ts,posT ts i=t.pos:=by
 refine ⟨ts[i.toNat]'(by omega),xh _,?_⟩
 unfold posT
 rw [List.getD_eq_getElem?_getD,zf (by omega)]
 rfl
mutual
theorem deepT_le (hN:0≤N) (hp:∀ t∈ts,t.pos≤N):∀ (t:Tr) (n i j:Int),SpT ts t i j→0≤i→j≤ts.length→deepT t n≤N
 | .mk k w ns a l,n,i,j,h,h0,hj=>by
  obtain ⟨m,h1,h2,h3,h4⟩:=spT_mk.1 h
  rw [deepT]
  split
  ·obtain ⟨t,ht,e⟩:=qog (ts:=ts) (i:=m) (by omega) (by omega)
   have:=hp t ht
   omega
  ·exact deepL_le hN hp l n m j h4 (by omega) hj
theorem deepL_le (hN:0≤N) (hp:∀ t∈ts,t.pos≤N):∀ (l:List Tr) (n i j:Int),SpL ts l i j→0≤i→j≤ts.length→deepL l n≤N
 | [],n,i,j,h,h0,hj=>by rw [deepL];omega
 | t::r,n,i,j,h,h0,hj=>by
  obtain ⟨e,h1,h2⟩:=spL_cons.1 h
  have h3:=qma h1
  have h4:=qmc _ _ _ h2
  rw [deepL]
  split
  ·exact deepT_le hN hp t (n+1) i e h1 h0 (by omega)
  ·exact deepL_le hN hp r n e j h2 (by omega) hj
end
end
mutual
def Tr.allT (Q:Tr→Prop):Tr→Prop
 | .mk k w n a l=>Q (.mk k w n a l)∧Tr.allL Q l
def Tr.allL (Q:Tr→Prop):List Tr→Prop
 | []=>True
 | t::r=>t.allT Q∧Tr.allL Q r
end
structure NdOf (L:List Nd) (nd:Nd) (u:Tr):Prop where
 kind:nd.kind=u.kind
 words:nd.words=u.words
 nums:nd.nums=u.nums
 at_:nd.at_=u.at_
 kids:nd.kids.map (fun k=>((L.getD k.toNat nd0).kind,(L.getD k.toNat nd0).at_))=u.l.map (fun v=>(v.kind,v.at_))
theorem jpm (n:Nat) (t:Tr):∃ x r,layT n t=x::r∧x.kind=t.kind∧x.at_=t.at_:=by
 cases t with
 | mk k w ns a l=>rw [layT];exact ⟨_,_,rfl,rfl,rfl⟩
mutual
theorem lay_lenT:∀ (n:Nat) (t:Tr),(layT n t).length=t.size
 | n,.mk k w ns a l=>by rw [layT,Tr.size,zn,lay_lenL (n+1) l];omega
theorem lay_lenL:∀ (n:Nat) (l:List Tr),(layL n l).length=Tr.sizeL l
 | _,[]=>rfl
 | n,t::r=>by rw [layL,Tr.sizeL,zs,lay_lenT n t,lay_lenL (n+t.size) r]
end
mutual
theorem layT_of {Q:Tr→Prop} (L:List Nd):∀ (t:Tr) (n:Nat) (pre post:List Nd),L=pre++(layT n t++post)→pre.length=n→t.allT Q→∀ nd∈layT n t,∃ u,Q u∧NdOf L nd u
 | .mk k w ns a l,n,pre,post,hL,hn,hq,nd,hm=>by
  rw [Tr.allT] at hq
  have h1:=layL_of (Q:=Q) L l (n+1) (pre++[⟨k,w,ns,ql (n+1) l,a⟩]) post (by rw [hL,layT];simp) (by simp [hn]) hq.2
  rw [layT] at hm
  rcases List.mem_cons.1 hm with rfl|hm
  ·exact ⟨_,hq.1,rfl,rfl,rfl,rfl,h1.2⟩
  ·exact h1.1 nd hm
theorem layL_of {Q:Tr→Prop} (L:List Nd):∀ (l:List Tr) (n:Nat) (pre post:List Nd),L=pre++(layL n l++post)→pre.length=n→Tr.allL Q l→
  (∀ nd∈layL n l,∃ u,Q u∧NdOf L nd u)∧(ql n l).map (fun k=>((L.getD k.toNat nd0).kind,(L.getD k.toNat nd0).at_))=l.map (fun v=>(v.kind,v.at_))
 | [],n,pre,post,hL,hn,hq=>⟨fun nd hm=>by rw [layL] at hm;simp at hm,rfl⟩
 | t::r,n,pre,post,hL,hn,hq=>by
  rw [Tr.allL] at hq
  have h1:=layT_of (Q:=Q) L t n pre (layL (n+t.size) r++post) (by rw [hL,layL];simp) hn hq.1
  have h2:=layL_of (Q:=Q) L r (n+t.size) (pre++layT n t) post (by rw [hL,layL];simp) (by rw [zs,lay_lenT,hn]) hq.2
  refine ⟨fun nd hm=>?_,?_⟩
  ·rw [layL] at hm
   rcases List.mem_append.1 hm with hm|hm
   ·exact h1 nd hm
   ·exact h2.1 nd hm
  ·obtain ⟨x,xs,e,e1,e2⟩:=jpm n t
   have hx:L.getD n nd0=x:=by
    rw [hL,layL,e,List.getD_eq_getElem?_getD,zk (by omega),hn,xx]
    rfl
   rw [ql,xn,xn,h2.2,Int.toNat_natCast,hx,e1,e2]
end
end Pa
end Go.Proofs.Ythfaleaojlnnoaa
end
section
namespace Go.Proofs.Ythfaleaojlnnoaa
namespace Pa
open Go Go.Sx
theorem qoh (t:Tr):0<t.size:=by
 cases t with
 | mk k w n a l=>rw [Tr.size];omega
mutual
theorem walkT_lay (L:List Nd):∀ (t:Tr) (f n:Nat) (pre post:List Nd) (d:Int),L=pre++(layT n t++post)→pre.length=n→t.allT (fun u=>0≤u.at_)→d+f=21→¬ 0≤deepT t d→Go.St.walkF L f n=(((n+t.size:Nat):Int),true)
 | .mk k w ns a l,f,n,pre,post,d,hL,hn,hq,hf,hd=>by
  rw [Tr.allT] at hq
  rw [deepT] at hd
  split at hd
  ·exact absurd hq.1 hd
  rename_i h20
  obtain ⟨g,rfl⟩:∃ g,f=g+1:=⟨f - 1,by omega⟩
  have hx:L.getD n nd0=⟨k,w,ns,ql (n+1) l,a⟩:=by
   rw [hL,layT,List.getD_eq_getElem?_getD,zk (by omega),hn,xx]
   rfl
  have h1:=walkL_lay L l g (n+1) (pre++[⟨k,w,ns,ql (n+1) l,a⟩]) post d (by rw [hL,layT];simp) (by simp [hn]) hq.2 (by omega) hd
  rw [Go.St.walkF,Int.toNat_natCast,hx]
  rw [Tr.size]
  have e:((n:Int)+1)=((n+1:Nat):Int):=by omega
  rw [e]
  refine h1.trans ?_
  rw [show n+1+Tr.sizeL l=n+(1+Tr.sizeL l) by omega]
theorem walkL_lay (L:List Nd):∀ (l:List Tr) (g m:Nat) (pre post:List Nd) (d:Int),L=pre++(layL m l++post)→pre.length=m→Tr.allL (fun u=>0≤u.at_) l→d+g=20→¬ 0≤deepL l d→Go.St.walkL (Go.St.walkF L g) L.length (ql m l) m=(((m+Tr.sizeL l:Nat):Int),true)
 | [],g,m,pre,post,d,hL,hn,hq,hf,hd=>by rw [ql,Go.St.walkL,Tr.sizeL,zy]
 | t::r,g,m,pre,post,d,hL,hn,hq,hf,hd=>by
  rw [Tr.allL] at hq
  rw [deepL] at hd
  split at hd
  ·rename_i h1
   exact absurd h1 hd
  rename_i h1
  have h2:=walkT_lay L t g m pre (layL (m+t.size) r++post) (d+1) (by rw [hL,layL];simp) hn hq.1 (by omega) h1
  have h3:=walkL_lay L r g (m+t.size) (pre++layT m t) post d (by rw [hL,layL];simp) (by rw [zs,lay_lenT,hn]) hq.2 hf hd
  have hl:L.length=m+(t.size+(layL (m+t.size) r).length+post.length):=by
   rw [hL,layL]
   simp only [zs,lay_lenT,hn]
  have h4:=qoh t
  rw [ql,Go.St.walkL,za (by omega),h2]
  simp only [Bool.true_eq_false,if_false]
  rw [h3,Tr.sizeL,zai]
end
theorem jpn (t:Tr) (hq:t.allT (fun u=>0≤u.at_)) (hd:¬ 0≤deepT t 1):Go.St.walkF (layT 0 t) 20 0=(((layT 0 t).length:Int),true):=by
 have:=walkT_lay (layT 0 t) t 20 0 [] [] 1 (by simp) rfl hq (by decide) hd
 rw [lay_lenT]
 simpa using this
section
variable {ts:List Lx.Tok}
mutual
theorem spT_nonneg (hp:∀ t∈ts,0≤t.pos):∀ (t:Tr) (i j:Int),SpT ts t i j→0≤i→j≤ts.length→t.allT (fun u=>0≤u.at_)
 | .mk k w ns a l,i,j,h,h0,hj=>by
  obtain ⟨m,h1,h2,h3,h4⟩:=spT_mk.1 h
  rw [Tr.allT]
  refine ⟨?_,spL_nonneg hp l m j h4 (by omega) hj⟩
  obtain ⟨t,ht,e⟩:=qog (ts:=ts) (i:=m) (by omega) (by omega)
  have:=hp t ht
  show 0≤a
  omega
theorem spL_nonneg (hp:∀ t∈ts,0≤t.pos):∀ (l:List Tr) (i j:Int),SpL ts l i j→0≤i→j≤ts.length→Tr.allL (fun u=>0≤u.at_) l
 | [],i,j,h,h0,hj=>by rw [Tr.allL];trivial
 | t::r,i,j,h,h0,hj=>by
  obtain ⟨e,h1,h2⟩:=spL_cons.1 h
  have h3:=qma h1
  have h4:=qmc _ _ _ h2
  rw [Tr.allL]
  exact ⟨spT_nonneg hp t i e h1 h0 (by omega),spL_nonneg hp r e j h2 (by omega) hj⟩
end
end
end Pa
end Go.Proofs.Ythfaleaojlnnoaa
end
section
namespace Go.Proofs.Ythfaleaojlnnoaa
open List renaming getD_eq_getElem?_getD → zd
namespace Pa
open List renaming getD_eq_getElem?_getD → zd
open Go Go.Sx Go.St
def setD (D:Nat→Int) (k:Nat) (v:Int):Nat→Int:=fun j=>if j=k then v else D j
def setK (i:Nat):List Int→(Nat→Int)→(Nat→Int)
 | [],D=>D
 | k::ks,D=>setK i ks (setD D k.toNat (D i+1))
def qds (L:List Nd):Nat→Nat→(Nat→Int)→Int × Int
 | 0,_,_=>(0,0)
 | m+1,i,D=>if i<L.length then (if 20<D i then (12,(L.getD i nd0).at_) else qds L m (i+1) (setK i (L.getD i nd0).kids D)) else (0,0)
theorem qrg {i:Nat}:∀ (ks:List Int) (D:Nat→Int) (j:Nat),(∀ k∈ks,k.toNat≠j)→setK i ks D j=D j
 | [],D,j,_=>rfl
 | k::ks,D,j,h=>by
  rw [setK,qrg ks _ j (fun x hx=>h x (xu _ hx))]
  unfold setD
  rw [za (fun e=>h k (xz ..) e.symm)]
theorem jct {i:Nat}:∀ (ks:List Int) (D:Nat→Int),(∀ k∈ks,k.toNat≠i)→∀ k∈ks,setK i ks D k.toNat=D i+1
 | k::ks,D,h,x,hx=>by
  rw [setK]
  have e:setD D k.toNat (D i+1) i=D i:=by unfold setD;rw [za (fun e=>h k (xz ..) e.symm)]
  have h':=fun x hx=>h x (xu k hx)
  by_cases hin:∃ y∈ks,y.toNat=x.toNat
  ·obtain ⟨y,hy,hyx⟩:=hin
   rw [← hyx,jct ks _ h' y hy,e]
  ·rcases List.mem_cons.1 hx with rfl|hx
   ·rw [qrg ks _ _ (fun y hy e=>hin ⟨y,hy,e⟩)]
    unfold setD
    rw [zb rfl]
   ·exact absurd ⟨x,hx,rfl⟩ hin
theorem qrh:∀ (n:Nat) (l:List Tr),∀ k∈ql n l,(n:Int)≤k∧k<n+Tr.sizeL l
 | n,t::r,k,h=>by
  have ht:=qoh t
  rw [Tr.sizeL]
  rcases List.mem_cons.1 h with rfl|h
  ·have:(n:Int)<n+(t.size+Tr.sizeL r:Nat):=by omega
   exact ⟨zm _,by omega⟩
  ·have:=qrh (n+t.size) r k h
   omega
mutual
theorem kids_upT (n:Nat):∀ (t:Tr) (j:Nat),j<t.size→∀ k∈((layT n t).getD j nd0).kids,((n+j:Nat):Int)<k∧k<((n+t.size:Nat):Int)
 | .mk kk w ns a l,j,hj,k,hk=>by
  rw [layT] at hk
  rw [Tr.size] at hj ⊢
  cases j with
  | zero=>
   have:=qrh (n+1) l k hk
   omega
  | succ j=>
   have:=kids_upL (n+1) l j (by omega) k (by simpa using hk)
   omega
theorem kids_upL (n:Nat):∀ (l:List Tr) (j:Nat),j<Tr.sizeL l→∀ k∈((layL n l).getD j nd0).kids,((n+j:Nat):Int)<k∧k<((n+Tr.sizeL l:Nat):Int)
 | [],j,hj,k,hk=>absurd hj (xc j)
 | t::r,j,hj,k,hk=>by
  rw [layL,zd] at hk
  rw [Tr.sizeL] at hj ⊢
  have hlt:=lay_lenT n t
  by_cases h:j<t.size
  ·rw [zo (by omega),← zd] at hk
   have:=kids_upT n t j h k hk
   omega
  ·rw [zk (by omega),← zd,hlt] at hk
   have:=kids_upL (n+t.size) r (j - t.size) (by omega) k hk
   omega
end
def Lies (L:List Nd) (n:Nat) (l:List Nd):Prop:=∀ j,j<l.length→n+j<L.length∧L.getD (n+j) nd0=l.getD j nd0
mutual
theorem size_t (L:List Nd):∀ (t:Tr) (n m:Nat) (D:Nat→Int) (d:Int),Lies L n (layT n t)→t.allT (fun u=>0≤u.at_)→D n=d→t.size≤m→
  (0≤deepT t d∧qds L m n D=(12,deepT t d))∨(¬ 0≤deepT t d∧∃ D',qds L m n D=qds L (m - t.size) (n+t.size) D'∧∀ j,n+t.size≤j→D' j=D j)
 | .mk kk w ns a l,n,m,D,d,hL,hq,hd,hm=>by
  have h0:=hL 0 (by rw [layT];exact zan _)
  rw [zy] at h0
  rw [Tr.size] at hm ⊢
  obtain ⟨m,rfl⟩:∃ m',m=m'+1:=⟨m - 1,by omega⟩
  have e0:L.getD n nd0=⟨kk,w,ns,ql (n+1) l,a⟩:=h0.2.trans (by rw [layT];rfl)
  rw [Tr.allT] at hq
  have ha:(0:Int)≤a:=hq.1
  rw [qds,zb h0.1,hd,e0,deepT]
  by_cases hgt:20<d
  ·rw [zb hgt,zb hgt]
   exact .inl ⟨ha,rfl⟩
  ·rw [za hgt,za hgt]
   have hk:=qrh (n+1) l
   have hne:∀ k∈ql (n+1) l,k.toNat≠n:=fun k hk'=>by have:=hk k hk';omega
   have hLl:Lies L (n+1) (layL (n+1) l):=fun j hj=>by
    have:=hL (j+1) (by rw [layT,zn];omega)
    rw [layT,List.getD_cons_succ,show n+(j+1)=n+1+j by omega] at this
    exact this
   rcases size_l L l (n+1) m (setK n (ql (n+1) l) D) d hLl hq.2 (fun k hk'=>by rw [jct _ _ hne k hk',hd]) (by omega) with h|⟨h,D',h1,h2⟩
   ·exact .inl h
   ·refine .inr ⟨h,D',?_,fun j hj=>?_⟩
    ·rw [h1,show m+1 - (1+Tr.sizeL l)=m - Tr.sizeL l by omega,show n+(1+Tr.sizeL l)=n+1+Tr.sizeL l by omega]
    ·rw [h2 j (by omega),qrg _ _ _ (fun k hk'=>by have:=hk k hk';omega)]
theorem size_l (L:List Nd):∀ (l:List Tr) (n m:Nat) (D:Nat→Int) (d:Int),Lies L n (layL n l)→Tr.allL (fun u=>0≤u.at_) l→(∀ k∈ql n l,D k.toNat=d+1)→Tr.sizeL l≤m→
  (0≤deepL l d∧qds L m n D=(12,deepL l d))∨(¬ 0≤deepL l d∧∃ D',qds L m n D=qds L (m - Tr.sizeL l) (n+Tr.sizeL l) D'∧∀ j,n+Tr.sizeL l≤j→D' j=D j)
 | [],n,m,D,d,_,_,_,_=>.inr ⟨by rw [deepL];decide,D,rfl,fun _ _=>rfl⟩
 | t::r,n,m,D,d,hL,hq,hd,hm=>by
  rw [Tr.sizeL] at hm ⊢
  rw [Tr.allL] at hq
  have hlt:=lay_lenT n t
  have hLt:Lies L n (layT n t):=fun j hj=>by
   have:=hL j (by rw [layL,zs];omega)
   rw [layL,zd (l:=layT n t++_),zo hj,← zd] at this
   exact this
  have hLr:Lies L (n+t.size) (layL (n+t.size) r):=fun j hj=>by
   have:=hL (t.size+j) (by rw [layL,zs];omega)
   rw [layL,zd (l:=layT n t++_),zk (by omega),← zd,hlt,xv,← zai] at this
   exact this
  have hdn:=hd n (by rw [ql];exact xz ..)
  rw [Int.toNat_natCast] at hdn
  rw [deepL]
  rcases size_t L t n m D (d+1) hLt hq.1 hdn (by omega) with ⟨h,h1⟩|⟨h,D',h1,h2⟩
  ·rw [zb h]
   exact .inl ⟨h,h1⟩
  ·rw [za h]
   have hr:∀ k∈ql (n+t.size) r,D' k.toNat=d+1:=fun k hk=>by
    have:=qrh (n+t.size) r k hk
    rw [h2 _ (by omega)]
    exact hd k (by rw [ql];exact xu _ hk)
   rcases size_l L r (n+t.size) (m - t.size) D' d hLr hq.2 hr (by omega) with ⟨h3,h4⟩|⟨h3,D'',h4,h5⟩
   ·exact .inl ⟨h3,by rw [h1,h4]⟩
   ·refine .inr ⟨h3,D'',?_,fun j hj=>?_⟩
    ·rw [h1,h4,Nat.sub_sub,zai]
    ·rw [h5 j (by omega),h2 j (by omega)]
end
def qfx (L:List Nd):Int × Int:=if 800<L.length then (12,0) else qds L L.length 0 (fun j=>if j=0 then 1 else 0)
theorem jcu (t:Tr) (hq:t.allT (fun u=>0≤u.at_)):qfx (layT 0 t)=if 800<(layT 0 t).length then (12,0) else if 0≤deepT t 1 then (12,deepT t 1) else (0,0):=by
 unfold qfx
 split
 ·rfl
 ·have hl:=lay_lenT 0 t
  rcases size_t (layT 0 t) t 0 (layT 0 t).length (fun j=>if j=0 then 1 else 0) 1 (fun j hj=>⟨by omega,by rw [zq]⟩) hq rfl (by omega) with ⟨h,h1⟩|⟨h,D',h1,_⟩
  ·rw [zb h,h1]
  ·rw [za h,h1,hl,xx]
   rfl
end Pa
end Go.Proofs.Ythfaleaojlnnoaa
end
