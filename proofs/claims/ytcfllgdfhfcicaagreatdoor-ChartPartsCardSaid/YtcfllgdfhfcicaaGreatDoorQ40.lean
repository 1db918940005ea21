/- Some texts of the library, one behind the other. -/
import Derived.Test.YtcfllgdfhfcicaaGreatDoorQ32
import Derived.Test.YtcfllgdfhfcicaaGreatDoorQ39
import Derived.Test.YtcfllgdfhfcicaaGreatDoorQ2
set_option linter.unusedSimpArgs false
set_option linter.unusedVariables false
section
namespace Go.St
open Go Go.Sx
theorem qla {α:Type} (l:List α) (x d:α):(l++[x]).getD l.length d=x:=by
 rw [List.getD_eq_getElem?_getD,zt (zk _),xv];rfl
theorem qpl {E:List Ev} {c:Int} {j:Nat} (h:j∈waitOf E c):j<E.length∧qck c (E.getD j {})=true:=by
 have h1:j∈jt E c:=zbf h
 unfold jt at h1
 rw [List.mem_filter,List.mem_range] at h1
 exact h1
theorem jya (E:List Ev) (c:Int):(waitOf E c).Pairwise (· < ·):=by
 unfold waitOf jt
 exact (List.pairwise_lt_range.filter _).drop
def goodAt (E:List Ev) (i:Nat):Prop:=
 ((E.getD i {}).kind=0→(E.getD i {}).frm=-1) ∧
 ((E.getD i {}).kind≠0→(0≤(E.getD i {}).frm∧(E.getD i {}).frm<i)∧((E.getD (E.getD i {}).frm.toNat {}).msg=(E.getD i {}).msg∧(E.getD (E.getD i {}).frm.toNat {}).ch=(E.getD i {}).ch) ∧
  ((E.getD (E.getD i {}).frm.toNat {}).kind≠1∧(E.getD (E.getD i {}).frm.toNat {}).kind≠2) ∧
  ∀ k,k<i→(E.getD k {}).ch=(E.getD i {}).ch→(E.getD i {}).kind≠3→((E.getD k {}).kind=1∨(E.getD k {}).kind=2)→(E.getD k {}).frm<(E.getD i {}).frm)
theorem jic {E:List Ev} {e:Ev} {i:Nat} (hi:i<E.length) (h:goodAt E i):goodAt (E++[e]) i:=by
 obtain ⟨h1,h2⟩:=h
 unfold goodAt
 rw [qgd _ _ _ hi]
 refine ⟨h1,fun hk=>?_⟩
 obtain ⟨h3,h4,h5,h6⟩:=h2 hk
 rw [qgd E [e] {} (j:=(E.getD i {}).frm.toNat) (by omega)]
 refine ⟨h3,h4,h5,fun k hk1=>?_⟩
 rw [qgd E [e] {} (j:=k) (by omega)]
 exact h6 k hk1
structure Inv (m:Md) (s:Stt) (E:List Ev):Prop where
 wt:Waits m s E
 msgs:∀ c:Nat,c<m.chans.length→s.chans.getD c []=(waitOf E c).map fun j=>(E.getD j {}).msg
 good:∀ i,i<E.length→goodAt E i
 lt:∀ (c:Int) (k:Nat),k<E.length→isTake c (E.getD k {})=true→∀ w∈waitOf E c,(E.getD k {}).frm<(w:Int)
theorem Inv.head {m:Md} {s:Stt} {E:List Ev} (h:Inv m s E) {c:Nat} (hc:c<m.chans.length) (hq:0<(s.chans.getD c []).length) :
  ∃ f:Nat,jo E c=f∧f∈waitOf E c∧f<E.length∧qck c (E.getD f {})=true∧jy s c=(E.getD f {}).msg:=by
 have hw:0<(waitOf E c).length:=by rw [(h.wt c hc).2];exact hq
 have hm:=qe (waitOf E c) 0 0 hw
 obtain ⟨h1,h2⟩:=qpl hm
 refine ⟨(waitOf E c).getD 0 0,qot hw,hm,h1,h2,?_⟩
 unfold jy
 rw [zu,h.msgs c hc,qrj _ _ _ _ 0 hw]
theorem qsy {E:List Ev} {e:Ev} {l:List Nat} (h:∀ j∈l,j<E.length):(l.map fun j=>((E++[e]).getD j {}).msg)=l.map fun j=>(E.getD j {}).msg:=
 xq fun j hj=>by rw [qgd _ _ _ (h j hj)]
theorem jid {m:Md} {s:Stt} {E:List Ev} (h:Inv m s E) {e:Ev} {c:Nat} (hc:c<m.chans.length) (hq:0<(s.chans.getD c []).length) (hch:e.ch=c) (hm:e.msg=jy s c) (hf:e.frm=jo E c):(e.kind=0→e.frm=-1)→goodAt (E++[e]) E.length:=by
 intro h0
 obtain ⟨f,f1,f2,f3,f4,f5⟩:=h.head hc hq
 have hp:=zi f4
 unfold goodAt
 rw [qla]
 refine ⟨h0,fun _=>?_⟩
 rw [hf,f1,zu,qgd _ _ _ f3]
 refine ⟨⟨xr _,by omega⟩,⟨by rw [hm,f5],by rw [hch];exact hp.1⟩,by omega,fun k hk h1 _ h3=>?_⟩
 rw [qgd _ _ _ hk] at h1 h3 ⊢
 exact h.lt c k hk (zo ⟨by rw [h1,hch],h3⟩) f f2
theorem jie {m:Md} {s s':Stt} {E:List Ev} (h:Inv m s E) {e:Ev} {c:Nat} {x:Int} (hc:c<m.chans.length) (hl:s.chans.length=m.chans.length) (hp:qck c e=true) (hs:s'.chans=s.chans.set c (s.chans.getD c []++[x])) (hx:e.msg=x) (hg:goodAt (E++[e]) E.length):Inv m s' (E++[e]):=by
 have hch:=(zi hp).1
 refine ⟨qxp h.wt hp hl hc hs,fun k hk=>?_,fun i hi=>?_,fun c' k hk ht w hw=>?_⟩
 ·by_cases hkc:k=c
  ·subst hkc
   rw [(qov hp (h.wt k hk).1).2.2,hs,qdm,zb ⟨rfl,by omega⟩,List.map_append,qsy (fun j hj=>(qpl hj).1),← h.msgs k hk]
   congr 1
   show [x]=[((E++[e]).getD E.length {}).msg]
   rw [qla,hx]
  ·rw [(qel (E:=E) (e:=e) (c:=(k:Int)) (by rw [hch];omega)).2.2,qsy (fun j hj=>(qpl hj).1),← h.msgs k hk,hs,qdm,za (fun h'=>hkc h'.1)]
 ·rw [zg,zq] at hi
  by_cases hil:i<E.length
  ·exact jic hil (h.good i hil)
  ·obtain rfl:i=E.length:=by omega
   exact hg
 ·rw [zg,zq] at hk
  by_cases hil:k<E.length
  ·rw [qgd _ _ _ hil] at ht ⊢
   by_cases hcc:c'=c
   ·subst hcc
    rw [(qov hp (h.wt c hc).1).2.2,xk,zm] at hw
    rcases hw with hw|rfl
    ·exact h.lt c k hil ht w hw
    ·have hgk:=(h.good k hil).2 (by have:=zi ht;omega)
     have:=hgk.1
     omega
   ·rw [(qel (E:=E) (e:=e) (c:=c') (by rw [hch];exact fun h'=>hcc h'.symm)).2.2] at hw
    exact h.lt c' k hil ht w hw
  ·obtain rfl:k=E.length:=by omega
   rw [qla] at ht
   have h1:=zi ht
   have h2:=zi hp
   omega
theorem jif {m:Md} {s s':Stt} {E:List Ev} (h:Inv m s E) {e:Ev} {c:Nat} (hc:c<m.chans.length) (hl:s.chans.length=m.chans.length) (ht:isTake c e=true) (hq:0<(s.chans.getD c []).length) (hs:s'.chans=s.chans.set c ((s.chans.getD c []).drop 1)) (hm:e.msg=jy s c) (hf:e.frm=jo E c):Inv m s' (E++[e]):=by
 have hch:=(zi ht).1
 have hkd:=(zi ht).2
 have hw0:0<(waitOf E c).length:=by rw [(h.wt c hc).2];exact hq
 have hg:=jid h hc hq hch hm hf (fun h0=>by omega)
 refine ⟨qxq h.wt ht hl hc hq hs,fun k hk=>?_,fun i hi=>?_,fun c' k hk ht' w hw=>?_⟩
 ·by_cases hkc:k=c
  ·subst hkc
   rw [(qsh ht (h.wt k hk).1 hw0).2.2,hs,qdm,zb ⟨rfl,by omega⟩,qsy (fun j hj=>(qpl (zbf hj)).1),List.map_drop,← h.msgs k hk]
  ·rw [(qel (E:=E) (e:=e) (c:=(k:Int)) (by rw [hch];omega)).2.2,qsy (fun j hj=>(qpl hj).1),← h.msgs k hk,hs,qdm,za (fun h'=>hkc h'.1)]
 ·rw [zg,zq] at hi
  by_cases hil:i<E.length
  ·exact jic hil (h.good i hil)
  ·obtain rfl:i=E.length:=by omega
   exact hg
 ·rw [zg,zq] at hk
  by_cases hcc:c'=c
  ·subst hcc
   rw [(qsh ht (h.wt c hc).1 hw0).2.2] at hw
   by_cases hil:k<E.length
   ·rw [qgd _ _ _ hil] at ht' ⊢
    exact h.lt c k hil ht' w (zbf hw)
   ·obtain rfl:k=E.length:=by omega
    rw [qla,hf,qot hw0]
    have hso:=jya E c
    generalize waitOf E c=W at hw hw0 hso
    cases W with
    | nil=>simp at hw0
    | cons a b=>
     have:=(List.pairwise_cons.1 hso).1 w hw
     show ((a:Nat):Int)<w
     omega
  ·rw [(qel (E:=E) (e:=e) (c:=c') (by rw [hch];exact fun h'=>hcc h'.symm)).2.2] at hw
   by_cases hil:k<E.length
   ·rw [qgd _ _ _ hil] at ht' ⊢
    exact h.lt c' k hil ht' w hw
   ·obtain rfl:k=E.length:=by omega
    rw [qla] at ht'
    have:=(zi ht').1
    omega
theorem jyb {m:Md} {s s':Stt} {E:List Ev} (h:Inv m s E) (hs:s'.chans=s.chans):Inv m s' E:=
 ⟨jgl h.wt hs,fun c hc=>by rw [hs];exact h.msgs c hc,h.good,h.lt⟩
theorem jyc (m:Md):Inv m (qt m) []:=
 ⟨jgn m,fun c hc=>by unfold qt;rw [qja _ _ _ _ hc];rfl,fun i hi=>absurd hi (zh i),fun c k hk=>absurd hk (zh k)⟩
theorem jyd {m:Md} (hM:ModOk m) {s:Stt} (hf:qm m s=true) {v:Mv} (h:je m s v=true) {E:List Ev} (hI:Inv m s E) (i:Nat):Inv m (qu m s v) (E++(evOf m s (qu m s v) i v E).toList):=by
 have hl:=((jg m s).1 hf).1.2.2.1
 cases qpe h with
 | lose c hc hq=>
  exact jif (c:=c) (e:=⟨2,i,-1,c,jy s c,jo E c⟩) hI hc hl (zo ⟨rfl,.inr rfl⟩) hq rfl rfl rfl
 | copy c hc hq=>
  refine jie (c:=c) (e:=⟨3,i,-1,c,jy s c,jo E c⟩) hI hc hl (zo ⟨rfl,.inr rfl⟩) rfl ?_ (jid hI hc hq rfl rfl rfl (fun h0=>absurd h0 (show ¬ (3:Int)=0 by decide)))
  unfold jy
  rfl
 | edge P e hP he hcan=>
  have hed:=edOk hM hP he
  have hte:edOf m ⟨0,P,e,0⟩=(edgesOf m P).getD e ed0:=rfl
  rw [qxr]
  unfold evOf
  rw [za (by simp),za (by simp),hte]
  have hq:=qsl hcan
  generalize (edgesOf m P).getD e ed0=d at hed hq ⊢
  by_cases h2:d.act=2
  ·have hch:=hed.chn (.inl h2)
   obtain ⟨C,hC⟩:=xg hch.1
   have hCm:C<m.chans.length:=by omega
   have hsx:(qbq m s P d).chans=s.chans.set C (s.chans.getD C []++[trim (if d.expr<0 then 0 else (val m P s d.expr).1) (m.chans.getD C ch0).width]):=by
    unfold qbq qn
    simp only
    rw [za (by omega),zb h2,hC];rfl
   rw [zb h2,hC]
   refine jie (c:=C) (x:=trim (if d.expr<0 then 0 else (val m P s d.expr).1) (m.chans.getD C ch0).width) hI hCm hl (zo ⟨rfl,.inl rfl⟩) hsx ?_ ?_
   ·show qdn (qbq m s P d) C=_
    unfold qdn
    rw [zu,hsx,qdm,zb ⟨rfl,by omega⟩,zg,zq,Nat.add_sub_cancel,qla]
   ·unfold goodAt
    rw [qla]
    exact ⟨fun _=>rfl,fun h0=>absurd rfl h0⟩
  ·by_cases h3:d.act=3
   ·have hch:=hed.chn (.inr h3)
    obtain ⟨C,hC⟩:=xg hch.1
    have hq:=hq h3
    rw [za h2,zb h3,hC]
    rw [hC] at hq
    refine jif (c:=C) hI (by omega) hl (zo ⟨rfl,.inl rfl⟩) hq ?_ rfl rfl
    unfold qbq qn
    simp only
    rw [za (by omega),za h2,zb h3,hC];rfl
   ·rw [za h2,za h3]
    rw [show (Option.none:Option Ev).toList=[] from rfl,zac]
    refine jyb hI ?_
    unfold qbq qn
    simp only
    split
    ·rfl
    ·rfl
theorem jig {m:Md} (hM:ModOk m) (h0:qm m (qt m)=true) {l:List Mv}:∀ {i:Nat},(∀ j,j<i→okN m l j=true)→Inv m (stN m l i) (evN m l i)
 | 0,_=>jyc m
 | i+1,h=>jyd hM (qhf hM h0 (i:=i) fun j hj=>h j (by omega)) (h i (by omega)) (jig hM h0 (i:=i) fun j hj=>h j (by omega)) i
theorem jye {m:Md} (hM:ModOk m) (h0:qm m (qt m)=true) (l:List Mv):∀ i,i<(qcd m l).length→goodAt (qcd m l) i:=(jig hM h0 (qse m l).2.1).good
end Go.St
end
section
namespace Go.Proofs.YtcfllgdfhfcicaaGreatDoor
open List renaming getD_eq_getElem?_getD → zd
open Go Go.Sx Go.RowKit Go.St Go.Sp
set_option maxRecDepth 100000
theorem jih {a b:Int} (h:Lib.itoa a=Lib.itoa b):a=b:=by
 have key:∀ (u v:Nat),(45:UInt8)::Lib.decDigits u=Lib.decDigits v→False:=fun u v e=>by
  have hp:=(qim v).1
  rw [← e] at hp
  simp [digB] at hp
 have pos:∀ n:Int,¬ n<0→Lib.itoa n=Lib.decDigits n.toNat:=fun n hn=>by unfold Lib.itoa;rw [za hn]
 have neg:∀ n:Int,n<0→Lib.itoa n=45::Lib.decDigits n.natAbs:=fun n hn=>by unfold Lib.itoa;rw [zb hn]
 by_cases ha:a<0 <;> by_cases hb:b<0
 ·rw [neg a ha,neg b hb] at h
  have h1:=congrArg valD (List.cons.inj h).2
  rw [(qim _).2.1,(qim _).2.1] at h1
  omega
 ·rw [neg a ha,pos b hb] at h
  exact (key _ _ h).elim
 ·rw [pos a ha,neg b hb] at h
  exact (key _ _ h.symm).elim
 ·rw [pos a ha,pos b hb] at h
  have h1:=congrArg valD h
  rw [(qim _).2.1,(qim _).2.1] at h1
  omega
def CleanL (s:List UInt8):Prop:=∀ b∈s,b≠32∧b≠10∧b≠46
theorem qsz (n:Int):CleanL (Lib.itoa n):=by
 have hd:∀ u,CleanL (Lib.decDigits u):=fun u b hb=>by
  have h:=zi (List.all_eq_true.1 (qim u).1 b hb)
  refine ⟨fun e=>?_,fun e=>?_,fun e=>?_⟩ <;> (rw [e] at h;simp at h)
 unfold Lib.itoa
 split
 ·intro b hb
  rcases List.mem_cons.1 hb with rfl|hb
  ·exact ⟨by decide,by decide,by decide⟩
  ·exact hd _ b hb
 ·exact hd _
theorem jyf {s:List UInt8} (h:nameF s=true):CleanL s:=by
 unfold nameF at h
 rw [zf,xn] at h
 intro b hb
 obtain ⟨i,hi,e⟩:=List.mem_iff_getElem.1 hb
 have hw:=h.2 i (List.mem_range.2 hi)
 have hbt:qax s i=(b.toNat:Int):=by
  show ((s.getD i 0).toNat:Int)=_
  rw [zd,ze hi,← e];rfl
 rw [hbt] at hw
 refine ⟨fun e=>?_,fun e=>?_,fun e=>?_⟩ <;> (rw [e] at hw;revert hw;decide)
theorem jii (k:Int):CleanL (jp k):=by
 unfold jp
 repeat' split
 all_goals (unfold CleanL;decide)
structure NmCl (m:Md):Prop where
 chan:∀ c∈m.chans,CleanL c.name
 proc:∀ q∈m.procs,CleanL q.name
theorem jij {l:List Nd} (h:Go.St.rightB l=true) {k:Int} (hk:qi l k=1∨qi l k=3):CleanL (qbx (l.getD k.toNat nd0)):=by
 have ht:=qwj h
 have hkl:k.toNat<l.length:=by
  rcases Nat.lt_or_ge k.toNat l.length with h|h
  ·exact h
  ·unfold qi at hk
   rw [zd,xe h] at hk
   rcases hk with hk|hk <;> exact absurd hk (by decide)
 have hn:=ht.node k.toNat hkl
 unfold qi at hk
 unfold qbx
 generalize l.getD k.toNat nd0=n at hn hk ⊢
 have key:wordsB n 1=true→CleanL (n.words.getD 0 []):=fun hw=>by
  unfold wordsB at hw
  rw [zf,xn,xz] at hw
  exact jyf (hw.1 _ (qe n.words 0 [] (by omega)))
 rcases hk with hk|hk
 ·unfold nodeB at hn
  rw [za (by omega),zb hk] at hn
  simp only [zf] at hn
  exact key hn.1.1.1.1
 ·unfold nodeB at hn
  rw [za (by omega),za (by omega),za (by omega),zb hk] at hn
  simp only [zf] at hn
  exact key hn.1.1
theorem jyg {l:List Nd} (h:Go.St.rightB l=true) (ht:Tree l) (hc:(qbp l).1=0):NmCl (qcq l) where
 chan:=by
  have h2:=(qyd ht (qif hc).1 (l.getD 0 nd0).kids [] { tree:=l } (by simp) ⟨fun c hc=>by simp at hc,List.Pairwise.nil⟩).1
  intro c hc
  obtain ⟨k,_,h3,h4⟩:=h2 c hc
  rw [h4]
  exact jij h (.inl h3)
 proc:=by
  have h2:=(qye ht (qif hc).1 (qbs l).chans (l.getD 0 nd0).kids [] (0,(qbs l).vars,[]) (by simp) ⟨fun c hc=>by simp at hc,List.Pairwise.nil⟩).1
  intro q hq
  obtain ⟨k,_,h3,h4⟩:=h2 q hq
  rw [h4]
  exact jij h (.inr h3)
theorem jik {c:UInt8}:∀ {a a' b b':List UInt8},(∀ x∈a,x≠c)→(∀ x∈a',x≠c)→a++c::b=a'++c::b'→a=a'∧b=b'
 | [],[],b,b',_,_,h=>⟨rfl,(List.cons.inj h).2⟩
 | [],y::a',b,b',_,h2,h=>absurd (List.cons.inj h).1.symm (h2 y (zn ..))
 | x::a,[],b,b',h1,_,h=>absurd (List.cons.inj h).1 (h1 x (zn ..))
 | x::a,y::a',b,b',h1,h2,h=>by
  obtain ⟨e1,e2⟩:=List.cons.inj h
  obtain ⟨e3,e4⟩:=jik (fun z hz=>h1 z (zv _ hz)) (fun z hz=>h2 z (zv _ hz)) e2
  exact ⟨by rw [e1,e3],e4⟩
theorem jyh {m:Md} (h:NmCl m) (p:Int):∀ b∈whoT m p,b≠32∧b≠10:=by
 unfold whoT
 split
 ·intro b hb
  have hc:=h.proc _ (qe m.procs p.toNat pr0 (by omega))
  simp only [xk,zm] at hb
  rcases hb with (hb|rfl)|hb
  ·exact ⟨(hc b hb).1,(hc b hb).2.1⟩
  ·exact ⟨by decide,by decide⟩
  ·exact ⟨(qsz _ b hb).1,(qsz _ b hb).2.1⟩
 ·decide
theorem jyi {m:Md} (h:NmCl m) (hU:PrU m) {p:Int} (h0:0≤p) (h1:p<m.procs.length):qbk m (whoT m p)=p:=by
 have hl:(List.range m.procs.length).length=m.procs.length:=zbv
 have inj:∀ i:Nat,i<m.procs.length→whoT m (i:Int)=whoT m p→(i:Int)=p:=fun i hi e=>by
  unfold whoT at e
  rw [zb ⟨by omega,by omega⟩,zb ⟨h0,h1⟩,zu,zy,zy] at e
  have hb:=jik (fun x hx=>(h.proc _ (qe m.procs i pr0 hi) x hx).2.2) (fun x hx=>(h.proc _ (qe m.procs p.toNat pr0 (by omega)) x hx).2.2) e
  have:=hU i p.toNat hi (by omega) hb.1 (jih hb.2)
  omega
 have:=qdt (fun q:Nat=>whoT m (q:Int) == whoT m p) (List.range m.procs.length) 0 p.toNat (by omega) (by rw [qfu _ _ (by omega),zbk h0];simp) (fun j hj=>by
  rw [qfu _ _ (by omega),beq_eq_false_iff_ne]
  intro e
  have:=inj j (by omega) e
  omega)
 show Go.St.idx (fun q:Nat=>whoT m (q:Int) == whoT m p) (List.range m.procs.length)=p
 rw [this,zbk h0]
theorem jyj {m:Md} (hU:ChU m) {c:Int} (h0:0≤c) (h1:c<m.chans.length):qge m (m.chans.getD c.toNat ch0).name=c:=by
 have:=(jhw hU (i:=c.toNat) (by omega) (m.chans.getD c.toNat ch0).name).1 rfl
 rw [this,zbk h0]
theorem qyf {c:UInt8}:∀ {W:List (List UInt8)},W≠[]→(∀ w∈W,∀ b∈w,b≠c)→spL c (qhi c W)=W
 | [],h,_=>absurd rfl h
 | [w],_,h=>qsu (h w (zn ..))
 | w::w'::r,_,h=>by
  show spL c (w++c::qhi c (w'::r))=_
  rw [qsv _ (h w (zn ..)),qyf (by simp) (fun x hx=>h x (zv _ hx))]
theorem qyg {c:UInt8}:∀ {W:List (List UInt8)} {b:UInt8},b∈qhi c W→b=c∨∃ w∈W,b∈w
 | [],b,h=>absurd h zbp
 | [w],b,h=>.inr ⟨w,zn ..,h⟩
 | w::w'::r,b,h=>by
  have h:b∈w++c::qhi c (w'::r):=h
  rcases List.mem_append.1 h with h|h
  ·exact .inr ⟨w,zn ..,h⟩
  ·rcases List.mem_cons.1 h with h|h
   ·exact .inl h
   ·rcases qyg h with h|⟨x,h1,h2⟩
    ·exact .inl h
    ·exact .inr ⟨x,zv _ h1,h2⟩
def wsE (m:Md) (i:Nat) (e:Ev):List (List UInt8):=
 if e.kind=0 then [Lib.itoa i,whoT m e.prc,jp e.kind,(m.chans.getD e.ch.toNat ch0).name,Lib.itoa e.msg]
 else [Lib.itoa i,whoT m e.prc,jp e.kind,(m.chans.getD e.ch.toNat ch0).name,Lib.itoa e.msg,[111,102],Lib.itoa e.frm]
theorem jil (m:Md) (i:Nat) (e:Ev):qas m i e=qhi 32 (wsE m i e)++[10]:=by
 unfold qas wsE
 by_cases h:e.kind=0
 ·rw [zb h,zb h];simp [qhi]
 ·rw [za h,za h];simp [qhi]
theorem jim {m:Md} (h:NmCl m) (i:Nat) {e:Ev} (he:EvOk m e):∀ w∈wsE m i e,∀ b∈w,b≠32∧b≠10:=by
 have c1:∀ n,∀ b∈Lib.itoa n,b≠32∧b≠10:=fun n b hb=>⟨(qsz n b hb).1,(qsz n b hb).2.1⟩
 have c2:∀ b∈jp e.kind,b≠32∧b≠10:=fun b hb=>⟨(jii _ b hb).1,(jii _ b hb).2.1⟩
 have c3:∀ b∈(m.chans.getD e.ch.toNat ch0).name,b≠32∧b≠10:=fun b hb=>by
  have:=h.chan _ (qe m.chans e.ch.toNat ch0 (by have:=he.chn;omega)) b hb
  exact ⟨this.1,this.2.1⟩
 have c4:=jyh h e.prc
 have c5:∀ b∈([111,102]:List UInt8),b≠32∧b≠10:=by decide
 intro w hw
 unfold wsE at hw
 split at hw
 ·simp only [List.mem_cons,zbp,or_false] at hw
  rcases hw with rfl|rfl|rfl|rfl|rfl
  ·exact c1 _
  ·exact c4
  ·exact c2
  ·exact c3
  ·exact c1 _
 ·simp only [List.mem_cons,zbp,or_false] at hw
  rcases hw with rfl|rfl|rfl|rfl|rfl|rfl|rfl
  ·exact c1 _
  ·exact c4
  ·exact c2
  ·exact c3
  ·exact c1 _
  ·exact c5
  ·exact c1 _
def zEv (e:Ev):Ev:={ e with mv:=0 }
structure Shw (m:Md) (E:List Ev):Prop where
 len:E.length≤999999
 ok:∀ e∈E,EvOk m e
 pk:∀ e∈E,if e.kind≤1 then 0≤e.prc else e.prc=-1
 good:∀ i,i<E.length→goodAt E i
theorem jyk {m:Md} (hc:NmCl m) (hP:PrU m) (hC:ChU m) {E:List Ev} (h:Shw m E) {i:Nat} (hi:i<E.length) :
  EvIs m (wsE m i (E.getD i {})) ((E.take i).map zEv)∧evT m (wsE m i (E.getD i {}))=zEv (E.getD i {}):=by
 have hm:=qe E i {} hi
 have he:=h.ok _ hm
 have hpk:=h.pk _ hm
 have hg:=h.good i hi
 have hlen:=h.len
 unfold goodAt at hg
 have hget:∀ f:Nat,f<i→((E.take i).map zEv).getD f {}=zEv (E.getD f {}):=fun f hf=>by
  rw [zd,zj,List.getElem?_take_of_lt hf,ze (by omega),zd,ze (by omega)];rfl
 have hl:((E.take i).map zEv).length=i:=by rw [xh,zw];omega
 generalize E.getD i {}=e at he hpk hg ⊢
 have ek:jb (jp e.kind)=e.kind:=jht he.kind.1 he.kind.2 rfl
 have en:numT (Lib.itoa e.msg)=(e.msg,true):=qsw _ he.msg.1 he.msg.2
 have ec:=jyj hC he.chn.1 he.chn.2
 have ep:e.kind≤1→qbk m (whoT m e.prc)=e.prc:=fun hk=>by
  rw [zb hk] at hpk
  exact jyi hc hP hpk he.prc.2
 have ew:¬ e.kind≤1→whoT m e.prc=[45]:=fun hk=>by
  rw [za hk] at hpk
  rw [hpk];rfl
 have ex:(if jb (jp e.kind)≤1 then qbk m (whoT m e.prc) else -1)=e.prc:=by
  rw [ek]
  split
  ·rename_i hk;exact ep hk
  ·rename_i hk;rw [za hk] at hpk;exact hpk.symm
 by_cases h0:e.kind=0
 ·have ews:wsE m i e=[Lib.itoa i,whoT m e.prc,jp e.kind,(m.chans.getD e.ch.toNat ch0).name,Lib.itoa e.msg]:=zb h0
  rw [ews]
  constructor
  ·refine ⟨.inl rfl,by rw [hl];rfl,?_,⟨fun _=>rfl,fun _=>?_⟩,?_,?_,?_,.inl ?_⟩
   ·show 0≤jb (jp e.kind);rw [ek];exact he.kind.1
   ·show jb (jp e.kind)=0;rw [ek];exact h0
   ·show if jb (jp e.kind)≤1 then 0≤qbk m (whoT m e.prc) else whoT m e.prc=[45]
    rw [ek,zb (by omega),ep (by omega)]
    rw [zb (by omega)] at hpk
    exact hpk
   ·show (numT (Lib.itoa e.msg)).2=true;rw [en]
   ·show 0≤qge m (m.chans.getD e.ch.toNat ch0).name;rw [ec];exact he.chn.1
   ·show jb (jp e.kind)=0;rw [ek];exact h0
  ·show (⟨jb (jp e.kind),0,if jb (jp e.kind)≤1 then qbk m (whoT m e.prc) else -1,qge m (m.chans.getD e.ch.toNat ch0).name,(numT (Lib.itoa e.msg)).1,if jb (jp e.kind)=0 then -1 else (numT []).1⟩:Ev)=_
   rw [ex,ek,ec,en,zb h0]
   show (⟨e.kind,0,e.prc,e.ch,e.msg,-1⟩:Ev)=⟨e.kind,0,e.prc,e.ch,e.msg,e.frm⟩
   rw [hg.1 h0]
 ·have ews:wsE m i e=[Lib.itoa i,whoT m e.prc,jp e.kind,(m.chans.getD e.ch.toNat ch0).name,Lib.itoa e.msg,[111,102],Lib.itoa e.frm]:=za h0
  obtain ⟨g1,g2,g3,_⟩:=hg.2 h0
  have ef:numT (Lib.itoa e.frm)=(e.frm,true):=qsw _ (by omega) (by omega)
  rw [ews]
  constructor
  ·refine ⟨.inr rfl,by rw [hl];rfl,?_,⟨fun h=>?_,fun h=>by cases h⟩,?_,?_,?_,.inr ⟨rfl,?_,?_,?_,?_,?_⟩⟩
   ·show 0≤jb (jp e.kind);rw [ek];exact he.kind.1
   ·have h:jb (jp e.kind)=0:=h
    rw [ek] at h;exact absurd h h0
   ·show if jb (jp e.kind)≤1 then 0≤qbk m (whoT m e.prc) else whoT m e.prc=[45]
    rw [ek]
    by_cases hk:e.kind≤1
    ·rw [zb hk,ep hk]
     rw [zb hk] at hpk
     exact hpk
    ·rw [za hk,ew hk]
   ·show (numT (Lib.itoa e.msg)).2=true;rw [en]
   ·show 0≤qge m (m.chans.getD e.ch.toNat ch0).name;rw [ec];exact he.chn.1
   ·show (numT (Lib.itoa e.frm)).2=true;rw [ef]
   ·show 0≤(numT (Lib.itoa e.frm)).1;rw [ef];exact g1.1
   ·show (numT (Lib.itoa e.frm)).1 < _;rw [ef,hl];exact g1.2
   ·show (((E.take i).map zEv).getD (numT (Lib.itoa e.frm)).1.toNat {}).ch=qge m (m.chans.getD e.ch.toNat ch0).name
    rw [ef,hget _ (by dsimp only;omega),ec]
    exact g2.2
   ·show (((E.take i).map zEv).getD (numT (Lib.itoa e.frm)).1.toNat {}).kind≠1∧(((E.take i).map zEv).getD (numT (Lib.itoa e.frm)).1.toNat {}).kind≠2
    rw [ef,hget _ (by dsimp only;omega)]
    exact g3
  ·show (⟨jb (jp e.kind),0,if jb (jp e.kind)≤1 then qbk m (whoT m e.prc) else -1,qge m (m.chans.getD e.ch.toNat ch0).name,(numT (Lib.itoa e.msg)).1,if jb (jp e.kind)=0 then -1 else (numT (Lib.itoa e.frm)).1⟩:Ev)=_
   rw [ex,ek,ec,en,za h0,ef]
   rfl
theorem qyh {m:Md} (hc:NmCl m) (hP:PrU m) (hC:ChU m) {E:List Ev} (h:Shw m E):∀ (i:Nat),i≤E.length→∀ s,goL m (spL 10 (qbf m E i++s)) []=goL m (spL 10 s) ((E.take i).map zEv)
 | 0,_,s=>rfl
 | i+1,hi,s=>by
  have hm:=qe E i {} (by omega)
  obtain ⟨h1,h2⟩:=jyk hc hP hC h (i:=i) (by omega)
  have hcl:=jim hc i (h.ok _ hm)
  have hne:wsE m i (E.getD i {})≠[]:=by unfold wsE;split <;> simp
  rw [qky,zy,qyh hc hP hC h i (by omega),jil,zy]
  show goL m (spL 10 (qhi 32 (wsE m i (E.getD i {}))++10::s)) _=_
  rw [qyb m s _ (fun b hb=>by
   rcases qyg hb with rfl|⟨w,hw,hb⟩
   ·decide
   ·exact (hcl w hw b hb).2),qyf hne (fun w hw b hb=>(hcl w hw b hb).1)]
  rw [show evF m (wsE m i (E.getD i {})) ((E.take i).map zEv)=some (evT m (wsE m i (E.getD i {}))) from zb h1,h2]
  show goL m (spL 10 s) ((E.take i).map zEv++[zEv (E.getD i {})])=_
  congr 1
  rw [zbc,List.map_append,ze (by omega),zd,ze (by omega)]
  rfl
theorem jyl {m:Md} (hc:NmCl m) (hP:PrU m) (hC:ChU m) {E:List Ev} (h:Shw m E) {i:Nat} (hi:i≤E.length):qkz m (qbf m E i)=some ((E.take i).map zEv):=by
 have:=qyh hc hP hC h i hi []
 rw [zac] at this
 unfold qkz
 rw [this,jxi]
theorem jym {m:Md} (hc:NmCl m) (hP:PrU m) (hC:ChU m) {E:List Ev} (h:Shw m E) {i:Nat} (hi:i<E.length):qkz m (qbf m E (i+1)++qas m i (E.getD i {}))=none:=by
 have hm:=qe E i {} hi
 have hcl:=jim hc i (h.ok _ hm)
 have hne:wsE m i (E.getD i {})≠[]:=by unfold wsE;split <;> simp
 unfold qkz
 rw [qyh hc hP hC h (i+1) (by omega),jil]
 show goL m (spL 10 (qhi 32 (wsE m i (E.getD i {}))++10::[])) _=_
 rw [qyb m [] _ (fun b hb=>by
   rcases qyg hb with rfl|⟨w,hw,hb⟩
   ·decide
   ·exact (hcl w hw b hb).2),qyf hne (fun w hw b hb=>(hcl w hw b hb).1)]
 rw [show evF m (wsE m i (E.getD i {})) ((E.take (i+1)).map zEv)=none from za fun hx=>?_]
 have h1:=hx.2.1
 have h2:(wsE m i (E.getD i {})).getD 0 []=Lib.itoa i:=by unfold wsE;split <;> rfl
 rw [h2] at h1
 have h3:=jih h1
 rw [xh,zw] at h3
 omega
theorem jin {m:Md} {l:List Mv}:∀ (i:Nat),i≤l.length→(∀ j,j<i→okN m l j=true)→∀ e∈evN m l i,if e.kind≤1 then 0≤e.prc else e.prc=-1
 | 0,_,_,e,he=>by simp [evN] at he
 | i+1,hi,h,e,he=>by
  unfold evN at he
  rw [xk] at he
  rcases he with he|he
  ·exact jin i (by omega) (fun j hj=>h j (by omega)) e he
  ·have hok:je m (stN m l i) (l.getD i {})=true:=h i (by omega)
   have hv:=qxs hok
   generalize evN m l i=E at he
   generalize stN m l i=s at he hv
   generalize stN m l (i+1)=t at he
   generalize l.getD i {}=v at he hv
   unfold evOf at he
   split at he
   ·simp only [zbd,zm] at he
    subst he
    exact (rfl:(-1:Int)=-1)
   split at he
   ·simp only [zbd,zm] at he
    subst he
    exact (rfl:(-1:Int)=-1)
   rename_i hk1 hk2
   rcases hv with ⟨hk',_⟩|⟨hk',_⟩|⟨_,hP,_⟩
   ·exact absurd hk' hk1
   ·exact absurd hk' hk2
   split at he
   ·simp only [zbd,zm] at he
    subst he
    exact hP.1
   split at he
   ·simp only [zbd,zm] at he
    subst he
    exact hP.1
   ·simp at he
theorem jyn {m:Md} (hM:ModOk m) (h0:qm m (qt m)=true) {l:List Mv} (hl:l.length≤999999):Shw m (qcd m l):=by
 have h:=qse m l
 have h1:=qxw hM h0 (l:=l) (by omega)
 exact ⟨by omega,h1.1,jin _ h.1 h.2.1,jye hM h0 l⟩
end Go.Proofs.YtcfllgdfhfcicaaGreatDoor
end
