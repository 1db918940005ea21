/- Some texts of the library, one behind the other. -/
import Derived.Test.YtcfllgdfhfcicaaGreatDoorQ27
import Derived.Test.YtcfllgdfhfcicaaGreatDoorQ30
import Derived.Test.YtcfllgdfhfcicaaGreatDoorQ34
import Derived.Test.YtcfllgdfhfcicaaGreatDoorQ2
section
namespace Go.St
open Go Go.Sx
theorem jez {m:Md} {s s':Stt} {E:List Ev} {e:Ev} {c:Nat} {x:Int} (hW:qdi m s E) (hp:qdh c e=true) (hl:s.chans.length=m.chans.length) (hc:c<m.chans.length) (hs:s'.chans=s.chans.set c (s.chans.getD c []++[x])):qdi m s' (E++[e]):=by
 intro k hk
 obtain ⟨w1,w2⟩:=hW k hk
 by_cases h:k=c
 ·subst h
  obtain ⟨e1,e2,e3⟩:=qwh hp w1
  refine ⟨e2,?_⟩
  rw [e3,hs,qfw,if_pos ⟨rfl,by omega⟩,List.length_append,List.length_append,w2];rfl
 ·have hec:e.ch=c:=(of_decide_eq_true hp).1
  obtain ⟨o1,o2,o3⟩:=qgw (E:=E) (e:=e) (c:=(k:Int)) (by rw [hec];omega)
  refine ⟨by rw [o1,o2];exact w1,?_⟩
  rw [o3,w2,hs,qfw,if_neg (fun h'=>h h'.1)]
theorem jfa {m:Md} {s s':Stt} {E:List Ev} {e:Ev} {c:Nat} (hW:qdi m s E) (hp:qeo c e=true) (hl:s.chans.length=m.chans.length) (hc:c<m.chans.length) (hq:0<(s.chans.getD c []).length) (hs:s'.chans=s.chans.set c ((s.chans.getD c []).drop 1)):qdi m s' (E++[e]):=by
 intro k hk
 obtain ⟨w1,w2⟩:=hW k hk
 by_cases h:k=c
 ·subst h
  obtain ⟨e1,e2,e3⟩:=jed hp w1 (by omega)
  refine ⟨e2,?_⟩
  rw [e3,hs,qfw,if_pos ⟨rfl,by omega⟩,List.length_drop,List.length_drop,w2]
 ·have hec:e.ch=c:=(of_decide_eq_true hp).1
  obtain ⟨o1,o2,o3⟩:=qgw (E:=E) (e:=e) (c:=(k:Int)) (by rw [hec];omega)
  refine ⟨by rw [o1,o2];exact w1,?_⟩
  rw [o3,w2,hs,qfw,if_neg (fun h'=>h h'.1)]
theorem jti {m:Md} {s s':Stt} {E:List Ev} (hW:qdi m s E) (hs:s'.chans=s.chans):qdi m s' E:=fun k hk=>by
 rw [hs];exact hW k hk
theorem qwq {m:Md} {s:Stt} {p:Nat} {e:Ed} (h:canB m s p e=true) (h3:e.act=3):0<(s.chans.getD e.chn.toNat []).length:=by
 unfold canB qlen at h
 rw [if_neg (by omega),if_pos h3,Bool.and_eq_true] at h
 have:=of_decide_eq_true h.2
 omega
inductive MvC (m:Md) (s:Stt):Mv→Prop
 | lose (c:Nat) (hc:c<m.chans.length) (hq:0<(s.chans.getD c []).length):MvC m s ⟨1,0,0,c⟩
 | copy (c:Nat) (hc:c<m.chans.length) (hq:0<(s.chans.getD c []).length):MvC m s ⟨2,0,0,c⟩
 | edge (P e:Nat) (hP:P<m.procs.length) (he:e<(edgesOf m P).length) (h:canB m s P ((edgesOf m P).getD e ed0)=true):MvC m s ⟨0,P,e,0⟩
theorem qru {m:Md} {s:Stt} {v:Mv} (h:ji m s v=true):MvC m s v:=by
 obtain ⟨k,p,e,c⟩:=v
 unfold ji at h
 simp only at h
 split at h
 ·rename_i hk
  rw [Bool.and_eq_true,Bool.and_eq_true] at h
  obtain ⟨ha,hb,h4⟩:=h
  have h2:=of_decide_eq_true ha
  have h3:=of_decide_eq_true hb
  clear ha hb
  obtain ⟨P,rfl⟩:=Int.eq_ofNat_of_zero_le h3.1
  obtain ⟨E,rfl⟩:=Int.eq_ofNat_of_zero_le h3.2.2.1
  obtain ⟨rfl,_⟩:=h2
  subst hk
  exact .edge P E (by omega) (by have:=h3.2.2.2;rw [Int.toNat_natCast] at this;omega) h4
 ·split at h
  ·rename_i hk
   rw [Bool.and_eq_true] at h
   obtain ⟨ha,h3⟩:=h
   have h2:=of_decide_eq_true ha
   clear ha
   obtain ⟨_,rfl,rfl,h0,h1⟩:=h2
   obtain ⟨C,rfl⟩:=Int.eq_ofNat_of_zero_le h0
   split at h3
   ·rename_i hk1
    subst hk1
    refine .lose C (by omega) ?_
    unfold qir qlen at h3
    simp only [Bool.and_eq_true,decide_eq_true_eq,Int.toNat_natCast] at h3
    omega
   ·obtain rfl:k=2:=by omega
    refine .copy C (by omega) ?_
    unfold qhl qlen at h3
    simp only [Bool.and_eq_true,decide_eq_true_eq,Int.toNat_natCast] at h3
    omega
  ·cases h
theorem jfb {m:Md} {s:Stt} {P e:Nat}:qx m s ⟨0,P,e,0⟩=qce m s P ((edgesOf m P).getD e ed0):=rfl
theorem jfc {m:Md} (hM:ModOk m) {s:Stt} (hf:ql m s=true) {v:Mv} (h:ji m s v=true) {E:List Ev} (hW:qdi m s E) (i:Nat):qdi m (qx m s v) (E++(evOf m s (qx m s v) i v E).toList):=by
 have hl:=((jh m s).1 hf).1.2.2.1
 cases qru h with
 | lose c hc hq=>
  exact jfa (c:=c) (e:=⟨2,i,-1,c,qau s c,qab E c⟩) hW (decide_eq_true ⟨rfl,.inr rfl⟩) hl hc hq rfl
 | copy c hc hq=>
  exact jez (c:=c) (e:=⟨3,i,-1,c,qau s c,qab E c⟩) hW (decide_eq_true ⟨rfl,.inr rfl⟩) hl hc rfl
 | edge P e hP he hcan=>
  have hed:=edOk hM hP he
  have hte:edOf m ⟨0,P,e,0⟩=(edgesOf m P).getD e ed0:=rfl
  rw [jfb]
  unfold evOf
  rw [if_neg (by simp),if_neg (by simp),hte]
  have hq:=qwq hcan
  generalize (edgesOf m P).getD e ed0=d at hed hq ⊢
  by_cases h2:d.act=2
  ·have hch:=hed.chn (.inl h2)
   obtain ⟨C,hC⟩:=Int.eq_ofNat_of_zero_le hch.1
   rw [if_pos h2,hC]
   refine jez (c:=C) (x:=trim (if d.expr<0 then 0 else (val m P s d.expr).1) (m.chans.getD C ch0).width) hW (decide_eq_true ⟨rfl,.inl rfl⟩) hl (by omega) ?_
   unfold qce qm
   simp only
   rw [if_neg (by omega),if_pos h2,hC];rfl
  ·by_cases h3:d.act=3
   ·have hch:=hed.chn (.inr h3)
    obtain ⟨C,hC⟩:=Int.eq_ofNat_of_zero_le hch.1
    have hq:=hq h3
    rw [if_neg h2,if_pos h3,hC]
    rw [hC] at hq
    refine jfa (c:=C) hW (decide_eq_true ⟨rfl,.inl rfl⟩) hl (by omega) hq ?_
    unfold qce qm
    simp only
    rw [if_neg (by omega),if_neg h2,if_pos h3,hC];rfl
   ·rw [if_neg h2,if_neg h3]
    rw [show (Option.none:Option Ev).toList=[] from rfl,List.append_nil]
    refine jti hW ?_
    unfold qce qm
    simp only
    split
    ·rfl
    ·rfl
theorem jtj (m:Md):qdi m (qz m) []:=fun k hk=>by
 refine ⟨Nat.le_refl _,?_⟩
 unfold qz
 rw [qka _ _ _ _ hk];rfl
theorem jfd {m:Md} (hM:ModOk m) (h0:ql m (qz m)=true) {l:List Mv}:∀ {i:Nat},(∀ j,j<i→okN m l j=true)→qdi m (stN m l i) (evN m l i)
 | 0,_=>jtj m
 | i+1,h=>jfc hM (qjb hM h0 (i:=i) fun j hj=>h j (by omega)) (h i (by omega)) (jfd hM h0 (i:=i) fun j hj=>h j (by omega)) i
end Go.St
end
section
namespace Go.Proofs.YtcfllgdfhfcicaaGreatDoor
open List renaming getD_eq_getElem?_getD → zd
open Go Go.Sx Go.RowKit Go.St
set_option maxRecDepth 100000
set_option maxHeartbeats 4000000
theorem jfe {m:Md} {s:Stt} {v:Mv} (h:ji m s v=true):(v.kind=1∧(0≤v.chn∧v.chn<m.chans.length)∧0<(s.chans.getD v.chn.toNat []).length)∨(v.kind=2∧(0≤v.chn∧v.chn<m.chans.length)∧0<(s.chans.getD v.chn.toNat []).length)∨(v.kind=0∧(0≤v.proc∧v.proc<m.procs.length)∧(0≤v.edge∧v.edge<(m.procs.getD v.proc.toNat pr0).edges.length)∧canB m s v.proc.toNat ((m.procs.getD v.proc.toNat pr0).edges.getD v.edge.toNat ed0)=true):=by
 cases qru h with
 | lose c hc hq=>exact .inl ⟨rfl,⟨Int.natCast_nonneg _,Int.ofNat_lt.2 hc⟩,hq⟩
 | copy c hc hq=>exact .inr (.inl ⟨rfl,⟨Int.natCast_nonneg _,Int.ofNat_lt.2 hc⟩,hq⟩)
 | edge P e hP he hcan=>exact .inr (.inr ⟨rfl,⟨Int.natCast_nonneg _,Int.ofNat_lt.2 hP⟩,⟨Int.natCast_nonneg _,Int.ofNat_lt.2 he⟩,hcan⟩)
theorem jtk {m:Md} (hM:ModOk m) {s:Stt} {v:Mv} (h:ji m s v=true) (hk:v.kind=0) (h2:(edOf m v).act=2) (hl:s.chans.length=m.chans.length):0<((qx m s v).chans.getD (edOf m v).chn.toNat []).length:=by
 cases qru h with
 | lose c hc hq=>simp at hk
 | copy c hc hq=>simp at hk
 | edge P e hP he hcan=>
  have hed:=edOk hM hP he
  have hte:edOf m ⟨0,P,e,0⟩=(edgesOf m P).getD e ed0:=rfl
  rw [hte] at h2 ⊢
  rw [jfb]
  generalize (edgesOf m P).getD e ed0=d at h2 hed ⊢
  have hch:=hed.chn (.inl h2)
  unfold qce qm
  simp only
  rw [if_neg (by omega),if_pos h2]
  simp only
  rw [qfw,if_pos ⟨rfl,by omega⟩,List.length_append]
  exact Nat.succ_pos _
theorem jtl (m:Md) (hM:ModOk m) (h0:ql m (qz m)=true) (l:List Mv) (hl:l.length≤1000000):Con Tryz.prog 14 [m.av,qcr l] (evsV (qbq m l)):=by
 have hst:=jth m hM h0 l hl
 have hn:=jeb m l
 have hlen:(qhy m l).length=nF m l+1:=by simp [qhy]
 have hget:∀ i,i≤nF m l→(qhy m l).getD i st0z=stN m l i:=fun i hi=>by unfold qhy;rw [jag _ _ _ _ (by omega)]
 generalize qhy m l=A at hst hlen hget
 have hEl:=qoo m l
 refine zK {lit:=true,owns:=[(6,(40,6))]} 300 Tryz.func14 (fun c0 rdb=>?_)
 (repeat' ((conv=>whnf);first|refine zC 300 (hst) ?_|fail))
 ((conv=>whnf);refine qp (fun _=>rfl) 300 1 (fun i:Nat=>[(7,iv i),(6,.own 1 0 0 (evN m l i).length)]) (fun i=>[(1,.row [] 40 6 0 (evN m l i).length (encL Ev.cells {} (evN m l i)))]) (fun i=>i≤nF m l) (fun i=>nF m l - i) (0) (Nat.zero_le _) qa ⟨qba (fun k hk=>absurd hk (Nat.not_lt_zero k)),trivial⟩ (fun _=>rfl) (by kernel_rfl) ?_;(conv=>whnf))
 intro i hi
 have hEi:=hEl i
 by_cases hin:i<nF m l
 ·have hok:ji m (stN m l i) (l.getD i {})=true:=hn.2.1 i hin
  have hf:=qjb hM h0 (fun j hj=>hn.2.1 j (by omega:j<nF m l)) (i:=i)
  have hA:=hget i (by omega)
  have hcl:=((jh m _).1 hf).1.2.2.1
  have hEn:evN m l (i+1)=evN m l i++(evOf m (stN m l i) (stN m l (i+1)) i (l.getD i {}) (evN m l i)).toList:=rfl
  have hfr:=fun c=>jsl (evN m l i) (by omega) c
  generalize evN m l i=E at hEi hEn hfr ⊢
  rcases jfe hok with ⟨hk,hc,hq⟩|⟨hk,hc,hq⟩|⟨hk,hP,he,hcan⟩
  ·rw [← hA] at hq hcl
   have hk1:inR .i64 ((l.getD i {}).kind+1):=⟨show (-9223372036854775808:Int)≤(l.getD i {}).kind+1 by omega,show (l.getD i {}).kind+1≤9223372036854775807 by omega⟩
   have hfc:=hfr (l.getD i {}).chn
   have hE1:E++[⟨(l.getD i {}).kind+1,i,-1,(l.getD i {}).chn,((A.getD i st0z).chans.getD (l.getD i {}).chn.toNat []).getD 0 0,qab E (l.getD i {}).chn⟩]=evN m l (i+1):=by
    rw [hEn,hA]
    unfold evOf qau
    rw [if_pos hk]
    rw [hk];rfl
   (repeat' ((conv=>whnf);first|refine zO ?_|refine Ob.auto ?_|refine zE 300 (hfc) ?_|refine zD 300 ?_|(apply zB <;> intro hb <;> (try simp [-zd] at hb) <;> try (exfalso;omega))))
   ((conv=>whnf);refine ⟨i+1,by omega,⟨⟨Le.refl _,qkn hE1 1,trivial⟩,⟨qia Ev.cells {} hE1 rfl,trivial⟩⟩,⟨qa,qa⟩,?_⟩;(first|omega|(dsimp only;omega)|skip))
  ·rw [← hA] at hq hcl
   have hk1:inR .i64 ((l.getD i {}).kind+1):=⟨show (-9223372036854775808:Int)≤(l.getD i {}).kind+1 by omega,show (l.getD i {}).kind+1≤9223372036854775807 by omega⟩
   have hfc:=hfr (l.getD i {}).chn
   have hE1:E++[⟨(l.getD i {}).kind+1,i,-1,(l.getD i {}).chn,((A.getD i st0z).chans.getD (l.getD i {}).chn.toNat []).getD 0 0,qab E (l.getD i {}).chn⟩]=evN m l (i+1):=by
    rw [hEn,hA]
    unfold evOf qau
    rw [if_neg (by omega),if_pos hk]
    rw [hk];rfl
   (repeat' ((conv=>whnf);first|refine zO ?_|refine Ob.auto ?_|refine zE 300 (hfc) ?_|refine zD 300 ?_|(apply zB <;> intro hb <;> (try simp [-zd] at hb) <;> try (exfalso;omega))))
   ((conv=>whnf);refine ⟨i+1,by omega,⟨⟨Le.refl _,qkn hE1 1,trivial⟩,⟨qia Ev.cells {} hE1 rfl,trivial⟩⟩,⟨qa,qa⟩,?_⟩;(first|omega|(dsimp only;omega)|skip))
  ·have hed:=edOk hM (p:=(l.getD i {}).proc.toNat) (i:=(l.getD i {}).edge.toNat) (by omega) (show (l.getD i {}).edge.toNat<(m.procs.getD (l.getD i {}).proc.toNat pr0).edges.length by omega)
   have hedd:EdOk m.tree.length m.vars.length m.chans.length (m.procs.getD (l.getD i {}).proc.toNat pr0).places ((m.procs.getD (l.getD i {}).proc.toNat pr0).edges.getD (l.getD i {}).edge.toNat ed0):=hed
   have hfc:=hfr ((m.procs.getD (l.getD i {}).proc.toNat pr0).edges.getD (l.getD i {}).edge.toNat ed0).chn
   by_cases h2:((m.procs.getD (l.getD i {}).proc.toNat pr0).edges.getD (l.getD i {}).edge.toNat ed0).act=2
   ·have hch:=hedd.chn (.inl h2)
    have hB:=hget (i+1) (by omega)
    have hf1:=qjb hM h0 (fun j hj=>hn.2.1 j (by omega:j<nF m l)) (i:=i+1)
    have htl:=((jh m _).1 hf1).1.2.2.1
    have hpos:=jtk hM hok hk h2 hcl
    have hb1:=(qck hM hf1).l _ (qh _ ((m.procs.getD (l.getD i {}).proc.toNat pr0).edges.getD (l.getD i {}).edge.toNat ed0).chn.toNat [] (by omega))
    rw [show qx m (stN m l i) (l.getD i {})=stN m l (i+1) from rfl] at hpos
    have hpos:0<((stN m l (i+1)).chans.getD ((m.procs.getD (l.getD i {}).proc.toNat pr0).edges.getD (l.getD i {}).edge.toNat ed0).chn.toNat []).length:=hpos
    rw [← hB] at htl hpos hb1
    have o1:0≤((m.procs.getD (l.getD i {}).proc.toNat pr0).edges.getD (l.getD i {}).edge.toNat ed0).chn∧((m.procs.getD (l.getD i {}).proc.toNat pr0).edges.getD (l.getD i {}).edge.toNat ed0).chn<((A.getD (i+1) st0z).chans.length:Int):=by omega
    have o2:inR .i64 ((((A.getD (i+1) st0z).chans.getD ((m.procs.getD (l.getD i {}).proc.toNat pr0).edges.getD (l.getD i {}).edge.toNat ed0).chn.toNat []).length:Int) - 1):=⟨show (-9223372036854775808:Int)≤(((A.getD (i+1) st0z).chans.getD ((m.procs.getD (l.getD i {}).proc.toNat pr0).edges.getD (l.getD i {}).edge.toNat ed0).chn.toNat []).length:Int) - 1 by omega,show (((A.getD (i+1) st0z).chans.getD ((m.procs.getD (l.getD i {}).proc.toNat pr0).edges.getD (l.getD i {}).edge.toNat ed0).chn.toNat []).length:Int) - 1≤9223372036854775807 by omega⟩
    have o3:0≤(((A.getD (i+1) st0z).chans.getD ((m.procs.getD (l.getD i {}).proc.toNat pr0).edges.getD (l.getD i {}).edge.toNat ed0).chn.toNat []).length:Int) - 1∧(((A.getD (i+1) st0z).chans.getD ((m.procs.getD (l.getD i {}).proc.toNat pr0).edges.getD (l.getD i {}).edge.toNat ed0).chn.toNat []).length:Int) - 1<(((A.getD (i+1) st0z).chans.getD ((m.procs.getD (l.getD i {}).proc.toNat pr0).edges.getD (l.getD i {}).edge.toNat ed0).chn.toNat []).length:Int):=by omega
    have hE1:E++[⟨0,i,(l.getD i {}).proc,((m.procs.getD (l.getD i {}).proc.toNat pr0).edges.getD (l.getD i {}).edge.toNat ed0).chn,((A.getD (i+1) st0z).chans.getD ((m.procs.getD (l.getD i {}).proc.toNat pr0).edges.getD (l.getD i {}).edge.toNat ed0).chn.toNat []).getD ((((A.getD (i+1) st0z).chans.getD ((m.procs.getD (l.getD i {}).proc.toNat pr0).edges.getD (l.getD i {}).edge.toNat ed0).chn.toNat []).length:Int) - 1).toNat 0,-1⟩]=evN m l (i+1):=by
     rw [hEn,hB]
     unfold evOf qed
     rw [if_neg (by omega),if_neg (by omega),if_pos (show (edOf m (l.getD i {})).act=2 from h2),show ∀ n:Nat,((n:Int) - 1).toNat=n - 1 from fun n=>by omega]
     rfl
    (repeat' ((conv=>whnf);first|refine zO ?_|refine Ob.auto ?_|refine zD 300 ?_|(apply zB <;> intro hb <;> (try simp [-zd] at hb) <;> try (exfalso;omega))))
    ((conv=>whnf);refine ⟨i+1,by omega,⟨⟨Le.refl _,qkn hE1 1,trivial⟩,⟨qia Ev.cells {} hE1 rfl,trivial⟩⟩,⟨qa,qa⟩,?_⟩;(first|omega|(dsimp only;omega)|skip))
   ·by_cases h3:((m.procs.getD (l.getD i {}).proc.toNat pr0).edges.getD (l.getD i {}).edge.toNat ed0).act=3
    ·have hch:=hedd.chn (.inr h3)
     have hq:0<((stN m l i).chans.getD ((m.procs.getD (l.getD i {}).proc.toNat pr0).edges.getD (l.getD i {}).edge.toNat ed0).chn.toNat []).length:=qwq hcan h3
     rw [← hA] at hq hcl
     have o1:0≤((m.procs.getD (l.getD i {}).proc.toNat pr0).edges.getD (l.getD i {}).edge.toNat ed0).chn∧((m.procs.getD (l.getD i {}).proc.toNat pr0).edges.getD (l.getD i {}).edge.toNat ed0).chn<((A.getD i st0z).chans.length:Int):=by omega
     have o2:(0:Int)≤0∧0<(((A.getD i st0z).chans.getD ((m.procs.getD (l.getD i {}).proc.toNat pr0).edges.getD (l.getD i {}).edge.toNat ed0).chn.toNat []).length:Int):=by omega
     have hE1:E++[⟨1,i,(l.getD i {}).proc,((m.procs.getD (l.getD i {}).proc.toNat pr0).edges.getD (l.getD i {}).edge.toNat ed0).chn,((A.getD i st0z).chans.getD ((m.procs.getD (l.getD i {}).proc.toNat pr0).edges.getD (l.getD i {}).edge.toNat ed0).chn.toNat []).getD 0 0,qab E ((m.procs.getD (l.getD i {}).proc.toNat pr0).edges.getD (l.getD i {}).edge.toNat ed0).chn⟩]=evN m l (i+1):=by
      rw [hEn,hA]
      unfold evOf qau
      rw [if_neg (by omega),if_neg (by omega),if_neg (show ¬ (edOf m (l.getD i {})).act=2 from h2),if_pos (show (edOf m (l.getD i {})).act=3 from h3)]
      rfl
     (repeat' ((conv=>whnf);first|refine zO ?_|refine Ob.auto ?_|refine zE 300 (hfc) ?_|refine zD 300 ?_|(apply zB <;> intro hb <;> (try simp [-zd] at hb) <;> try (exfalso;omega))))
     ((conv=>whnf);refine ⟨i+1,by omega,⟨⟨Le.refl _,qkn hE1 1,trivial⟩,⟨qia Ev.cells {} hE1 rfl,trivial⟩⟩,⟨qa,qa⟩,?_⟩;(first|omega|(dsimp only;omega)|skip))
    ·have hE1:E=evN m l (i+1):=by
      rw [hEn]
      unfold evOf
      rw [if_neg (by omega),if_neg (by omega),if_neg (show ¬ (edOf m (l.getD i {})).act=2 from h2),if_neg (show ¬ (edOf m (l.getD i {})).act=3 from h3)]
      exact (List.append_nil _).symm
     clear hEn
     (repeat' ((conv=>whnf);first|refine zO ?_|refine Ob.auto ?_|refine zD 300 ?_|(apply zB <;> intro hb <;> (try simp [-zd] at hb) <;> try (exfalso;omega))))
     ((conv=>whnf);refine ⟨i+1,by omega,⟨⟨Le.refl _,qko hE1 1,trivial⟩,⟨qkm Ev.cells {} hE1,trivial⟩⟩,⟨qa,qa⟩,?_⟩;(first|omega|(dsimp only;omega)|skip))
 ·obtain rfl:i=nF m l:=by omega
  (repeat' ((conv=>whnf);first|refine Ob.auto ?_|(apply zB <;> intro hb <;> (try simp [-zd] at hb) <;> try (exfalso;omega))))
  exact Le.refl _
end Go.Proofs.YtcfllgdfhfcicaaGreatDoor
end
