/- Some texts of the library, one behind the other. -/
import Derived.Test.YtcfllgdfhfcicaaGreatDoorQ30
import Derived.Test.YtcfllgdfhfcicaaGreatDoorQ27
import Derived.Test.YtcfllgdfhfcicaaGreatDoorQ26
import Derived.Test.YtcfllgdfhfcicaaGreatDoorQ29
import Derived.Test.YtcfllgdfhfcicaaGreatDoorQ24
import Derived.Lib.ItoaLen
import Derived.Lib.Join
import Derived.Test.YtcfllgdfhfcicaaGreatDoorQ3
import Derived.Test.YtcfllgdfhfcicaaGreatDoorQ2
import Derived.Lib.ItoaNum
import Derived.Test.YtcfllgdfhfcicaaGreatDoorChecked
section
namespace Go.Proofs.YtcfllgdfhfcicaaGreatDoor
open Go Go.Sx Go.RowKit Go.St
set_option maxRecDepth 100000
set_option maxHeartbeats 4000000

set_option maxHeartbeats 2000000

set_option maxHeartbeats 4000000

end Go.Proofs.YtcfllgdfhfcicaaGreatDoor
end
section
namespace Go.St
open Go Go.Sx
theorem jem {m:Md} {s s':Stt} {E:List Ev} {e:Ev} {c:Nat} {x:Int} (hW:qcy m s E) (hp:qgl c e=true) (hl:s.chans.length=m.chans.length) (hc:c<m.chans.length) (hs:s'.chans=s.chans.set c (s.chans.getD c []++[x])):qcy m s' (E++[e]):=by
 intro k hk
 obtain ⟨w1,w2⟩:=hW k hk
 by_cases h:k=c
 ·subst h
  obtain ⟨e1,e2,e3⟩:=qvv hp w1
  refine ⟨e2,?_⟩
  rw [e3,hs,qgk,if_pos ⟨rfl,by omega⟩,List.length_append,List.length_append,w2];rfl
 ·have hec:e.ch=c:=(of_decide_eq_true hp).1
  obtain ⟨o1,o2,o3⟩:=qgm (E:=E) (e:=e) (c:=(k:Int)) (by rw [hec];omega)
  refine ⟨by rw [o1,o2];exact w1,?_⟩
  rw [o3,w2,hs,qgk,if_neg (fun h'=>h h'.1)]
theorem jen {m:Md} {s s':Stt} {E:List Ev} {e:Ev} {c:Nat} (hW:qcy m s E) (hp:qho c e=true) (hl:s.chans.length=m.chans.length) (hc:c<m.chans.length) (hq:0<(s.chans.getD c []).length) (hs:s'.chans=s.chans.set c ((s.chans.getD c []).drop 1)):qcy m s' (E++[e]):=by
 intro k hk
 obtain ⟨w1,w2⟩:=hW k hk
 by_cases h:k=c
 ·subst h
  obtain ⟨e1,e2,e3⟩:=jdw hp w1 (by omega)
  refine ⟨e2,?_⟩
  rw [e3,hs,qgk,if_pos ⟨rfl,by omega⟩,List.length_drop,List.length_drop,w2]
 ·have hec:e.ch=c:=(of_decide_eq_true hp).1
  obtain ⟨o1,o2,o3⟩:=qgm (E:=E) (e:=e) (c:=(k:Int)) (by rw [hec];omega)
  refine ⟨by rw [o1,o2];exact w1,?_⟩
  rw [o3,w2,hs,qgk,if_neg (fun h'=>h h'.1)]
theorem jsp {m:Md} {s s':Stt} {E:List Ev} (hW:qcy m s E) (hs:s'.chans=s.chans):qcy m s' E:=fun k hk=>by
 rw [hs];exact hW k hk
theorem jeo {m:Md} {s:Stt} {p:Nat} {e:Ed} (h:canB m s p e=true) (h3:e.act=3):0<(s.chans.getD e.chn.toNat []).length:=by
 unfold canB qlen at h
 rw [if_neg (by omega),if_pos h3,Bool.and_eq_true] at h
 have:=of_decide_eq_true h.2
 omega
inductive MvC (m:Md) (s:Stt):Mv→Prop
 | lose (c:Nat) (hc:c<m.chans.length) (hq:0<(s.chans.getD c []).length):MvC m s ⟨1,0,0,c⟩
 | copy (c:Nat) (hc:c<m.chans.length) (hq:0<(s.chans.getD c []).length):MvC m s ⟨2,0,0,c⟩
 | edge (P e:Nat) (hP:P<m.procs.length) (he:e<(edgesOf m P).length) (h:canB m s P ((edgesOf m P).getD e ed0)=true):MvC m s ⟨0,P,e,0⟩
theorem qvz {m:Md} {s:Stt} {v:Mv} (h:qan m s v=true):MvC m s v:=by
 obtain ⟨k,p,e,c⟩:=v
 unfold qan at h
 simp only at h
 split at h
 ·rename_i hk
  rw [Bool.and_eq_true,Bool.and_eq_true] at h
  obtain ⟨ha,hb,h4⟩:=h
  have h2:=of_decide_eq_true ha
  have h3:=of_decide_eq_true hb
  clear ha hb
  obtain ⟨P,rfl⟩:=Int.eq_ofNat_of_zero_le h3.1
  obtain ⟨E,rfl⟩:=Int.eq_ofNat_of_zero_le h3.2.2.1
  obtain ⟨rfl,_⟩:=h2
  subst hk
  exact .edge P E (by omega) (by have:=h3.2.2.2;rw [Int.toNat_natCast] at this;omega) h4
 ·split at h
  ·rename_i hk
   rw [Bool.and_eq_true] at h
   obtain ⟨ha,h3⟩:=h
   have h2:=of_decide_eq_true ha
   clear ha
   obtain ⟨_,rfl,rfl,h0,h1⟩:=h2
   obtain ⟨C,rfl⟩:=Int.eq_ofNat_of_zero_le h0
   split at h3
   ·rename_i hk1
    subst hk1
    refine .lose C (by omega) ?_
    unfold qli qlen at h3
    simp only [Bool.and_eq_true,decide_eq_true_eq,Int.toNat_natCast] at h3
    omega
   ·obtain rfl:k=2:=by omega
    refine .copy C (by omega) ?_
    unfold qjv qlen at h3
    simp only [Bool.and_eq_true,decide_eq_true_eq,Int.toNat_natCast] at h3
    omega
  ·cases h
theorem jsq {m:Md} {s:Stt} {P e:Nat}:jf m s ⟨0,P,e,0⟩=qdu m s P ((edgesOf m P).getD e ed0):=rfl
theorem jep {m:Md} (hM:ModOk m) {s:Stt} (hf:qq m s=true) {v:Mv} (h:qan m s v=true) {E:List Ev} (hW:qcy m s E) (i:Nat):qcy m (jf m s v) (E++(evOf m s (jf m s v) i v E).toList):=by
 have hl:=((qag m s).1 hf).1.2.2.1
 cases qvz h with
 | lose c hc hq=>
  exact jen (c:=c) (e:=⟨2,i,-1,c,qba s c,qaz E c⟩) hW (decide_eq_true ⟨rfl,.inr rfl⟩) hl hc hq rfl
 | copy c hc hq=>
  exact jem (c:=c) (e:=⟨3,i,-1,c,qba s c,qaz E c⟩) hW (decide_eq_true ⟨rfl,.inr rfl⟩) hl hc rfl
 | edge P e hP he hcan=>
  have hed:=edOk hM hP he
  have hte:edOf m ⟨0,P,e,0⟩=(edgesOf m P).getD e ed0:=rfl
  rw [jsq]
  unfold evOf
  rw [if_neg (by simp),if_neg (by simp),hte]
  have hq:=jeo hcan
  generalize (edgesOf m P).getD e ed0=d at hed hq ⊢
  by_cases h2:d.act=2
  ·have hch:=hed.chn (.inl h2)
   obtain ⟨C,hC⟩:=Int.eq_ofNat_of_zero_le hch.1
   rw [if_pos h2,hC]
   refine jem (c:=C) (x:=trim (if d.expr<0 then 0 else (val m P s d.expr).1) (m.chans.getD C ch0).width) hW (decide_eq_true ⟨rfl,.inl rfl⟩) hl (by omega) ?_
   unfold qdu qbi
   simp only
   rw [if_neg (by omega),if_pos h2,hC];rfl
  ·by_cases h3:d.act=3
   ·have hch:=hed.chn (.inr h3)
    obtain ⟨C,hC⟩:=Int.eq_ofNat_of_zero_le hch.1
    have hq:=hq h3
    rw [if_neg h2,if_pos h3,hC]
    rw [hC] at hq
    refine jen (c:=C) hW (decide_eq_true ⟨rfl,.inl rfl⟩) hl (by omega) hq ?_
    unfold qdu qbi
    simp only
    rw [if_neg (by omega),if_neg h2,if_pos h3,hC];rfl
   ·rw [if_neg h2,if_neg h3]
    rw [show (Option.none:Option Ev).toList=[] from rfl,List.append_nil]
    refine jsp hW ?_
    unfold qdu qbi
    simp only
    split
    ·rfl
    ·rfl
theorem jsr (m:Md):qcy m (qbo m) []:=fun k hk=>by
 refine ⟨Nat.le_refl _,?_⟩
 unfold qbo
 rw [qtp _ _ _ _ hk];rfl
theorem jeq {m:Md} (hM:ModOk m) (h0:qq m (qbo m)=true) {l:List Mv}:∀ {i:Nat},(∀ j,j<i→okN m l j=true)→qcy m (stN m l i) (evN m l i)
 | 0,_=>jsr m
 | i+1,h=>jep hM (qnr hM h0 (i:=i) fun j hj=>h j (by omega)) (h i (by omega)) (jeq hM h0 (i:=i) fun j hj=>h j (by omega)) i
end Go.St
end
section
namespace Go.Proofs.YtcfllgdfhfcicaaGreatDoor
open Go Go.Sx Go.RowKit Go.St
set_option maxRecDepth 100000
set_option maxHeartbeats 4000000
theorem jss {m:Md} {s:Stt} {v:Mv} (h:qan m s v=true):(v.kind=1∧(0≤v.chn∧v.chn<m.chans.length)∧0<(s.chans.getD v.chn.toNat []).length)∨(v.kind=2∧(0≤v.chn∧v.chn<m.chans.length)∧0<(s.chans.getD v.chn.toNat []).length)∨(v.kind=0∧(0≤v.proc∧v.proc<m.procs.length)∧(0≤v.edge∧v.edge<(m.procs.getD v.proc.toNat pr0).edges.length)∧canB m s v.proc.toNat ((m.procs.getD v.proc.toNat pr0).edges.getD v.edge.toNat ed0)=true):=by
 cases qvz h with
 | lose c hc hq=>exact .inl ⟨rfl,⟨Int.natCast_nonneg _,Int.ofNat_lt.2 hc⟩,hq⟩
 | copy c hc hq=>exact .inr (.inl ⟨rfl,⟨Int.natCast_nonneg _,Int.ofNat_lt.2 hc⟩,hq⟩)
 | edge P e hP he hcan=>exact .inr (.inr ⟨rfl,⟨Int.natCast_nonneg _,Int.ofNat_lt.2 hP⟩,⟨Int.natCast_nonneg _,Int.ofNat_lt.2 he⟩,hcan⟩)
end Go.Proofs.YtcfllgdfhfcicaaGreatDoor
end
section
namespace Go.Proofs.YtcfllgdfhfcicaaGreatDoor
open List renaming getD_eq_getElem?_getD → zd
open Go Go.Sx Go.RowKit Go.St
set_option maxRecDepth 100000
structure NmOk (m:Md):Prop where
 chan:∀ c∈m.chans,c.name.length≤12
 proc:∀ q∈m.procs,q.name.length≤12∧0≤q.copy∧q.copy≤1000000
def NC (p q:Pr):Prop:=q.name=p.name∧q.copy=p.copy
theorem NC.refl (p:Pr):NC p p:=⟨rfl,rfl⟩
theorem NC.trans {p q r:Pr} (h:NC p q) (k:NC q r):NC p r:=⟨k.1.trans h.1,k.2.trans h.2⟩
theorem qwa (st:Pr→Int→Int→Int→Pr) (node:Int) (h:∀ p k a b,NC p (st p k a b)):∀ (l:List Int) (p:Pr) (a b:Int),NC p (qap st node p l a b)
 | [],p,a,b=>⟨rfl,rfl⟩
 | [k],p,a,b=>h p k a b
 | k::k'::r,p,a,b=>by
  have h1:NC p (qf p):=⟨rfl,rfl⟩
  exact (h1.trans (h _ k a p.places)).trans (qwa st node h (k'::r) _ _ _)
theorem jer {α:Type} (f:Pr→α→Pr) (h:∀ p x,NC p (f p x)):∀ (l:List α) (p:Pr),NC p (l.foldl f p)
 | [],p=>NC.refl p
 | x::l,p=>by rw [List.foldl_cons];exact (h p x).trans (jer f h l _)
theorem qej (p:Pr) (a b c d e f g:Int):NC p (putF p a b c d e f g):=⟨rfl,rfl⟩
theorem qnw (p:Pr):NC p (qf p):=⟨rfl,rfl⟩
theorem qwb (p:Pr) (a b:Int):NC p (jp p a b):=⟨rfl,rfl⟩
theorem jes (l:List Nd) (cs:List Ch):∀ (f:Nat) (p:Pr) (a b c:Int),NC p (qc l cs f p a b c)
 | 0,p,a,b,c=>NC.refl p
 | f+1,p,a,b,c=>by
  have hb:∀ (p:Pr) (k x y:Int),NC p (qap (qc l cs f) k p (l.getD k.toNat nd0).kids x y):=fun p k x y=>qwa _ _ (jes l cs f) _ _ _ _
  unfold qc
  simp only
  split
  ·exact qej ..
  split
  ·exact qej ..
  split
  ·exact (qwb p _ _).trans (qej ..)
  split
  ·exact (qwb p _ _).trans (qej ..)
  split
  ·refine (qwb p _ _).trans (jer _ (fun q k=>?_) _ _)
   unfold qgi
   split
   ·exact ((qnw q).trans (qej ..)).trans (hb _ _ _ _)
   ·exact hb _ _ _ _
  split
  ·split
   ·exact (((qnw p).trans (qej ..)).trans (hb _ _ _ _)).trans (qej ..)
   ·exact ((((qnw p).trans (qej ..)).trans (hb _ _ _ _)).trans ((qnw _).trans (qej ..))).trans (hb _ _ _ _)
  split
  ·exact (((qnw p).trans (qej ..)).trans (qej ..)).trans (hb _ _ _ _)
  split
  ·exact (hb p _ _ _).trans ⟨rfl,rfl⟩
  split
  ·exact qej ..
  ·exact qej ..
theorem jet (l:List Nd):∀ (ks:List Int) (x:Pr × List Vr),NC x.1 (ks.foldl (qdk l) x).1
 | [],x=>NC.refl _
 | k::ks,x=>by rw [List.foldl_cons];exact NC.trans (q:=(qdk l x k).1) ⟨rfl,rfl⟩ (jet l ks _)
theorem jeu (l:List Nd) (cs:List Ch) (k:Int) (seen:Nat):∀ (n:Nat) (x:List Vr × List Pr),∀ q∈((List.range n).foldl (qcw l cs k seen) x).2,q∈x.2∨(q.name=(l.getD k.toNat nd0).words.getD 0 []∧0≤q.copy∧q.copy<n)
 | 0,x,q,hq=>.inl hq
 | n+1,x,q,hq=>by
  rw [List.range_succ,List.foldl_append,List.foldl_cons,List.foldl_nil] at hq
  have ih:=jeu l cs k seen n x q
  generalize (List.range n).foldl (qcw l cs k seen) x=y at hq ih
  unfold qcw at hq
  simp only [List.mem_append,List.mem_singleton] at hq
  rcases hq with hq|rfl
  ·rcases ih hq with h|h
   ·exact .inl h
   ·exact .inr ⟨h.1,h.2.1,by omega⟩
  ·right
   have h1:=qwa (qc l cs 20) k (jes l cs 20) ((l.getD k.toNat nd0).kids.drop (varsN l (l.getD k.toNat nd0))) (((l.getD k.toNat nd0).kids.take (varsN l (l.getD k.toNat nd0))).foldl (qdk l) (qhm l y.1 seen k n,y.1)).1 0 1
   have h2:=jet l ((l.getD k.toNat nd0).kids.take (varsN l (l.getD k.toNat nd0))) (qhm l y.1 seen k n,y.1)
   have h3:=h2.trans h1
   refine ⟨h3.1,?_,?_⟩
   ·rw [h3.2];exact Int.natCast_nonneg n
   ·rw [h3.2];show (n:Int)<((n+1:Nat):Int);omega
theorem jst {s:List UInt8} (h:nameF s=true):s.length≤12:=by
 unfold nameF at h
 simp only [Bool.and_eq_true,Bool.not_eq_true',Bool.or_eq_false_iff,decide_eq_false_iff_not] at h
 omega
theorem jev {l:List Nd} (h:Go.St.rightB l=true) {k:Int} (hk:qk l k=1∨qk l k=3):((l.getD k.toNat nd0).words.getD 0 []).length≤12∧(qk l k=3→(l.getD k.toNat nd0).nums.getD 0 0≤999999):=by
 have ht:=jcg h
 have hkl:k.toNat<l.length:=by
  rcases Nat.lt_or_ge k.toNat l.length with h|h
  ·exact h
  ·unfold qk at hk
   rw [zd,List.getElem?_eq_none h] at hk
   rcases hk with hk|hk <;> exact absurd hk (by decide)
 have hn:=ht.node k.toNat hkl
 unfold qk at hk ⊢
 generalize l.getD k.toNat nd0=n at hn hk ⊢
 have key:wordsB n 1=true→(n.words.getD 0 []).length≤12:=fun hw=>by
  unfold wordsB at hw
  rw [Bool.and_eq_true,List.all_eq_true,beq_iff_eq] at hw
  exact jst (hw.1 _ (qj n.words 0 [] (by omega)))
 rcases hk with hk|hk
 ·unfold nodeB at hn
  rw [if_neg (by omega),if_pos hk] at hn
  simp only [Bool.and_eq_true] at hn
  exact ⟨key hn.1.1.1.1,fun h=>by omega⟩
 ·unfold nodeB at hn
  rw [if_neg (by omega),if_neg (by omega),if_neg (by omega),if_pos hk] at hn
  simp only [Bool.and_eq_true] at hn
  refine ⟨key hn.1.1,fun _=>?_⟩
  have h2:=hn.1.2
  unfold numsB at h2
  rw [Bool.and_eq_true,List.all_eq_true,beq_iff_eq] at h2
  have:=h2.1 _ (qj n.nums 0 0 (by omega))
  rw [Bool.and_eq_true,decide_eq_true_eq,decide_eq_true_eq] at this
  exact this.2
theorem jew {l:List Nd} (h:Go.St.rightB l=true) (cs:List Ch):∀ (ks:List Int) (x:Nat × List Vr × List Pr),(∀ q∈x.2.2,q.name.length≤12∧0≤q.copy∧q.copy≤1000000)→∀ q∈(ks.foldl (qcl l cs) x).2.2,q.name.length≤12∧0≤q.copy∧q.copy≤1000000
 | [],x,hx=>hx
 | k::ks,x,hx=>by
  rw [List.foldl_cons]
  refine jew h cs ks _ ?_
  unfold qcl
  simp only
  split
  ·rename_i hk
   intro q hq
   have hn:=jev h (k:=k) (.inr hk)
   rcases jeu l cs k _ _ _ q hq with hq|⟨h1,h2,h3⟩
   ·exact hx q hq
   ·have:=hn.2 hk
    exact ⟨by rw [h1];exact hn.1,h2,by omega⟩
  ·exact hx
theorem jex {l:List Nd} (h:Go.St.rightB l=true):∀ (ks:List Int) (m:Md),(∀ c∈m.chans,c.name.length≤12)→∀ c∈(ks.foldl (qey l) m).chans,c.name.length≤12
 | [],m,hm=>hm
 | k::ks,m,hm=>by
  rw [List.foldl_cons]
  refine jex h ks _ ?_
  unfold qey
  simp only
  split
  ·rename_i hk
   intro c hc
   simp only [List.mem_append,List.mem_singleton] at hc
   rcases hc with hc|rfl
   ·exact hm c hc
   ·exact (jev h (k:=k) (.inl hk)).1
  split
  ·exact hm
  split
  ·exact hm
  split
  ·exact hm
  ·exact hm
theorem jey {l:List Nd} (h:Go.St.rightB l=true):NmOk (qeh l) where
 chan:=by
  show ∀ c∈(qcm l).chans,_
  exact jex h _ _ (fun c hc=>by simp at hc)
 proc:=jew h _ _ _ (fun q hq=>by simp at hq)
structure EvOk (m:Md) (e:Ev):Prop where
 kind:0≤e.kind∧e.kind≤3
 chn:0≤e.ch∧e.ch<m.chans.length
 prc:-1≤e.prc∧e.prc<m.procs.length
 msg:-999999≤e.msg∧e.msg≤999999
 frm:-1≤e.frm∧e.frm≤1000000
theorem qqy {m:Md} {s:Stt} (h:qq m s=true) (c k:Nat):-999999≤(s.chans.getD c []).getD k 0∧(s.chans.getD c []).getD k 0≤999999:=by
 have hf:=(qag m s).1 h
 by_cases hc:c<s.chans.length
 ·by_cases hk:k<(s.chans.getD c []).length
  ·have:=(hf.2.2.2 c hc).2 k hk
   unfold qjj at this
   have ht:=qpx ((s.chans.getD c []).getD k 0) (m.chans.getD c ch0).width
   rw [this] at ht
   omega
  ·rw [zd (i:=k),List.getElem?_eq_none (by omega)]
   decide
 ·rw [zd (i:=c),List.getElem?_eq_none (by omega)]
  simp
theorem jsu (E:List Ev) (c:Int) (hE:E.length≤1000000):-1≤qaz E c∧qaz E c≤1000000:=by
 unfold qaz
 split
 ·rename_i j hj
  have h1:=List.mem_of_getElem? hj
  unfold qbj at h1
  have:=List.mem_range.1 (List.mem_filter.1 h1).1
  omega
 ·omega
theorem jez {m:Md} (hM:ModOk m) (h0:qq m (qbo m)=true) {l:List Mv} (hl:l.length≤1000000):∀ (i:Nat),i≤l.length→(∀ j,j<i→okN m l j=true)→∀ e∈evN m l i,EvOk m e
 | 0,_,_,e,he=>by simp [evN] at he
 | i+1,hi,h,e,he=>by
  unfold evN at he
  rw [List.mem_append] at he
  rcases he with he|he
  ·exact jez hM h0 hl i (by omega) (fun j hj=>h j (by omega)) e he
  ·have hok:qan m (stN m l i) (l.getD i {})=true:=h i (by omega)
   have hfi:=qnr hM h0 (l:=l) (i:=i) (fun j hj=>h j (by omega))
   have hfn:=qnr hM h0 (l:=l) (i:=i+1) (fun j hj=>h j (by omega))
   have hE:=qqv m l i
   have hfr:=fun c=>jsu (evN m l i) c (by omega)
   generalize evN m l i=E at he hfr hE
   have hv:=jss hok
   generalize stN m l i=s at he hfi hv hok
   generalize stN m l (i+1)=t at he hfn
   generalize l.getD i {}=v at he hv hok
   unfold evOf at he
   split at he
   ·rename_i hk
    simp only [Option.toList_some,List.mem_singleton] at he
    subst he
    rcases hv with ⟨_,hc,_⟩|⟨hk',_⟩|⟨hk',_⟩
    ·exact ⟨by dsimp only;omega,hc,⟨by dsimp only;omega,by dsimp only;omega⟩,qqy hfi _ _,hfr _⟩
    ·omega
    ·omega
   split at he
   ·rename_i hk
    simp only [Option.toList_some,List.mem_singleton] at he
    subst he
    rcases hv with ⟨hk',_⟩|⟨_,hc,_⟩|⟨hk',_⟩
    ·omega
    ·exact ⟨by dsimp only;omega,hc,⟨by dsimp only;omega,by dsimp only;omega⟩,qqy hfi _ _,hfr _⟩
    ·omega
   rename_i hk1 hk2
   rcases hv with ⟨hk',_⟩|⟨hk',_⟩|⟨_,hP,hE',_⟩
   ·exact absurd hk' hk1
   ·exact absurd hk' hk2
   have hpr:=hM.pr _ (qj m.procs v.proc.toNat pr0 (by omega))
   have hed:=hpr.ed _ (qj (m.procs.getD v.proc.toNat pr0).edges v.edge.toNat ed0 (by omega))
   have hed:EdOk m.tree.length m.vars.length m.chans.length (m.procs.getD v.proc.toNat pr0).places (edOf m v):=hed
   split at he
   ·rename_i ha
    simp only [Option.toList_some,List.mem_singleton] at he
    subst he
    exact ⟨by dsimp only;omega,hed.chn (.inl ha),⟨by show (-1:Int)≤v.proc;omega,hP.2⟩,qqy hfn _ _,by dsimp only;omega⟩
   split at he
   ·rename_i ha
    simp only [Option.toList_some,List.mem_singleton] at he
    subst he
    exact ⟨by dsimp only;omega,hed.chn (.inr ha),⟨by show (-1:Int)≤v.proc;omega,hP.2⟩,qqy hfi _ _,hfr _⟩
   ·simp at he
theorem jsv {m:Md} (hM:ModOk m) (h0:qq m (qbo m)=true) {l:List Mv} (hl:l.length≤1000000):(∀ e∈qdl m l,EvOk m e)∧(qdl m l).length≤l.length:=by
 have h:=jrl m l
 exact ⟨jez hM h0 hl _ h.1 h.2.1,Nat.le_trans (qqv m l _) h.1⟩
def whoT (m:Md) (p:Int):List UInt8:=if 0≤p∧p<m.procs.length then (m.procs.getD p.toNat pr0).name++[46]++Lib.itoa (m.procs.getD p.toNat pr0).copy else [45]
def qcd (k:Int):List UInt8:=if k=0 then [115,101,110,100] else if k=1 then [114,101,99,118] else if k=2 then [108,111,115,101] else if k=3 then [99,111,112,121] else [63]
def qbb (m:Md) (i:Nat) (e:Ev):List UInt8:=
 Lib.itoa i++[32]++whoT m e.prc++[32]++qcd e.kind++[32]++(m.chans.getD e.ch.toNat ch0).name++[32]++Lib.itoa e.msg++(if e.kind=0 then [] else [32,111,102,32]++Lib.itoa e.frm)++[10]
def qbk (m:Md) (E:List Ev) (i:Nat):List UInt8:=(List.range i).flatMap fun j=>qbb m j (E.getD j {})
def qnx (m:Md) (E:List Ev):List UInt8:=qbk m E E.length
theorem qjw (m:Md) (E:List Ev) (i:Nat):qbk m E (i+1)=qbk m E i++qbb m i (E.getD i {}):=by
 unfold qbk
 rw [List.range_succ,List.flatMap_append]
 simp
theorem jfa {m:Md} (h:NmOk m) (p:Int):(whoT m p).length≤34:=by
 unfold whoT
 split
 ·rename_i hp
  have hq:=h.proc _ (qj m.procs p.toNat pr0 (by omega))
  have:=Lib.itoa_length_le (m.procs.getD p.toNat pr0).copy (by omega) (by omega)
  simp only [List.length_append,List.length_singleton]
  omega
 ·decide
theorem jfb (k:Int):(qcd k).length≤4:=by
 unfold qcd
 repeat' split
 all_goals decide
theorem qqz {m:Md} (h:NmOk m) {e:Ev} (he:EvOk m e) (i:Nat) (hi:i≤1000000):(qbb m i e).length≤130:=by
 have h1:=Lib.itoa_length_le (i:Int) (by omega) (by omega)
 have h2:=jfa h e.prc
 have h3:=jfb e.kind
 have h4:=h.chan _ (qj m.chans e.ch.toNat ch0 (by have:=he.chn;omega))
 have h5:=Lib.itoa_length_le e.msg (by have:=he.msg;omega) (by have:=he.msg;omega)
 have h6:=Lib.itoa_length_le e.frm (by have:=he.frm;omega) (by have:=he.frm;omega)
 unfold qbb
 split
 ·simp only [List.length_append,List.length_cons,List.length_nil];omega
 ·simp only [List.length_append,List.length_cons,List.length_nil];omega
theorem qra {m:Md} (h:NmOk m) {E:List Ev} (hE:∀ e∈E,EvOk m e) (hl:E.length≤1000000):∀ i,i≤E.length→(qbk m E i).length≤130 * i
 | 0,_=>by simp [qbk]
 | i+1,hi=>by
  have h1:=qra h hE hl i (by omega)
  have h2:=qqz h (hE _ (qj E i {} (by omega))) i (by omega)
  rw [qjw,List.length_append]
  omega
end Go.Proofs.YtcfllgdfhfcicaaGreatDoor
end
section
namespace Go.Proofs.YtcfllgdfhfcicaaGreatDoor
open Go Go.Sx Go.RowKit
set_option maxRecDepth 100000
set_option maxHeartbeats 4000000
theorem jsw {n:Int} (h0:0≤n) (h1:n<10):Lib.itoa n=[UInt8.ofNat (48+n.toNat)]:=by
 unfold Lib.itoa
 rw [if_neg (by omega),Lib.decDigits,dif_pos (by omega)]
theorem jsx {n:Int} (h:10≤n):Lib.itoa n=Lib.itoa (n / 10)++Lib.itoa (n % 10):=by
 unfold Lib.itoa
 rw [if_neg (by omega),if_neg (by omega),if_neg (by omega),Lib.decDigits,dif_neg (by omega),show n.toNat / 10=(n / 10).toNat by omega]
 congr 1
 rw [Lib.decDigits,dif_pos (by omega)]
 congr 2
 omega
theorem jsy {n:Int} (h:n<0):Lib.itoa n=45::Lib.itoa (-n):=by
 unfold Lib.itoa
 rw [if_pos h,if_neg (by omega)]
 congr 2
 omega
theorem jfc:∀ (k:Nat) (n:Int),0≤n→n≤9223372036854775807→n.toNat≤k→Con Tryz.prog 53 [iv n] (.str (Lib.itoa n)):=by
 intro k
 induction k using Nat.strongRecOn with
 | _ k ih=>
  intro n h0 h1 hk
  refine zK {} 300 Tryz.func53 (fun c0 rdb=>?_)
  have hd:n.tdiv 10=n / 10:=Int.tdiv_eq_ediv_of_nonneg h0
  have hm:n.tmod 10=n % 10:=Int.tmod_eq_emod_of_nonneg h0
  (repeat' ((conv=>whnf);first|refine Ob.auto ?_|(apply zB <;> intro hb <;> (try simp [-List.getD_eq_getElem?_getD] at hb) <;> try (exfalso;omega))|refine Ob.intro ?_ ?_|fail))
  ·exact ⟨show (0:Int)≤48+n by omega,show 48+n≤(255:Int) by omega⟩
  ·refine fun i hi=>⟨UInt8.ofNat (48+n.toNat),?_⟩
   obtain rfl:i=0:=by omega
   show [AV.int IntKind.u8 (48+n)]=[AV.int IntKind.u8 _]
   rw [UInt8.toNat_ofNat']
   congr 2
   omega
  ·rw [jsw h0 hb]
   refine Le.of_eq (congrArg AV.str ?_)
   show [(48+n).toNat.toUInt8]=[UInt8.ofNat (48+n.toNat)]
   rw [show (48+n).toNat=48+n.toNat by omega]
  ·exact ⟨by decide,by rw [hd];exact ⟨show (-9223372036854775808:Int)≤_ by omega,show _≤(9223372036854775807:Int) by omega⟩⟩
  ·have c1:=ih (k - 1) (by omega) (n / 10) (by omega) (by omega) (by omega)
   have c2:=ih (k - 1) (by omega) (n % 10) (by omega) (by omega) (by omega)
   have l1:=Lib.itoa_length_le (n / 10) (by omega) (by omega)
   have l2:=Lib.itoa_length_le (n % 10) (by omega) (by omega)
   rw [← hd] at c1 l1
   rw [← hm] at c2 l2
   (repeat' ((conv=>whnf);first|refine Ob.auto ?_|refine zC 300 (c1) ?_|refine zC 300 (c2) ?_|fail))
   rw [hd,hm,← jsx hb]
   exact Le.refl _
theorem jsz (n:Int) (h0:-9223372036854775807≤n) (h1:n≤9223372036854775807):Con Tryz.prog 53 [iv n] (.str (Lib.itoa n)):=by
 by_cases h:0≤n
 ·exact jfc n.toNat n h h1 (Nat.le_refl _)
 ·have c:=jfc (-n).toNat (-n) (by omega) (by omega) (Nat.le_refl _)
  have l1:=Lib.itoa_length_le (-n) (by omega) (by omega)
  rw [← Int.zero_sub] at c l1
  refine zK {} 300 Tryz.func53 (fun c0 rdb=>?_)
  (repeat' ((conv=>whnf);first|refine Ob.auto ?_|refine zC 300 (c) ?_|(apply zB <;> intro hb <;> (try simp [-List.getD_eq_getElem?_getD] at hb) <;> try (exfalso;omega))|refine Ob.intro ?_ ?_|fail))
  ·show 1 + _≤_
   omega
  ·have e:Lib.itoa n=[45]++Lib.itoa (0 - n):=by rw [jsy (by omega),Int.zero_sub];rfl
   rw [e]
   exact Le.refl _
end Go.Proofs.YtcfllgdfhfcicaaGreatDoor
end
