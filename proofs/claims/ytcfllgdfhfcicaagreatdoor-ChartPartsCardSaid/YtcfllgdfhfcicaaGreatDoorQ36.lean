/- Some texts of the library, one behind the other. -/
import Derived.Test.YtcfllgdfhfcicaaGreatDoorQ35
import Derived.Test.YtcfllgdfhfcicaaGreatDoorQ32
import Derived.Test.YtcfllgdfhfcicaaGreatDoorQ2
import Derived.Test.YtcfllgdfhfcicaaGreatDoorQ34
import Derived.Test.YtcfllgdfhfcicaaGreatDoorQ3
import Derived.Shelf.Strings.OnBuilder
set_option linter.unusedSimpArgs false
set_option linter.unusedVariables false
section
namespace Go.Proofs.YtcfllgdfhfcicaaGreatDoor
open List renaming getD_eq_getElem?_getD → zd
open Go Go.Sx Go.RowKit Go.St
set_option maxRecDepth 100000
set_option maxHeartbeats 4000000
theorem jwk (m:Md) (s t:Stt) (E:List Ev) (hE:E.length≤1000000) (i:Nat) (c:Nat) (hcl:s.chans.length=m.chans.length) (hW:Waits m s E) (hc:c<m.chans.length) (hq:0<(s.chans.getD c []).length) :
  Trip Tryz.prog 49 [.ptr 0 0,iv i,(⟨1,0,0,c⟩:Mv).av,s.av,t.av] [boxG m E.length,rowE E,rowW m E,famW m E] (.tup []) [(0,boxG m (E.length+1)),(1,rowE (E++[⟨2,i,-1,c,jy s c,jo E c⟩])),(2,rowW m (E++[⟨2,i,-1,c,jy s c,jo E c⟩])),(3,famW m (E++[⟨2,i,-1,c,jy s c,jo E c⟩]))] 4:=by
 obtain ⟨w1,w2⟩:=hW c hc
 rw [qot (by omega)]
 have ht:=jhg m E hE 2 i (-1) (jy s c) 0 c hc (zo ⟨rfl,.inr rfl⟩) w1 (by omega)
 unfold boxG rowE rowW famW at *
 refine zL {} 300 Tryz.func49 (fun c0 rdb mpb=>?_)
 (repeat' ((conv=>whnf);first|(apply zB <;> intro hb <;> (try simp [-zd] at hb) <;> try (exfalso;omega))))
 ((conv=>whnf);refine zQ 300 ?_)
 (repeat' ((conv=>whnf);first|refine Ob.auto ?_|fail))
 ((conv=>whnf);refine CallY.trip [0,1,2,3] (ht) (by kernel_rfl) leA qa (by exact qct ⟨fun _ _=>rfl,trivial⟩) (by exact qct ⟨fun _ _=>rfl,trivial⟩) ?_)
 (repeat' ((conv=>whnf);first|refine zA ?_|fail))
 exact ⟨Le.refl _,SoLe.refl _,SoLe.refl _,SoLe.refl _,SoLe.refl _,trivial⟩
theorem jwl (m:Md) (s t:Stt) (E:List Ev) (hE:E.length≤1000000) (i:Nat) (c:Nat) (hcl:s.chans.length=m.chans.length) (hW:Waits m s E) (hc:c<m.chans.length) (hq:0<(s.chans.getD c []).length) :
  Trip Tryz.prog 49 [.ptr 0 0,iv i,(⟨2,0,0,c⟩:Mv).av,s.av,t.av] [boxG m E.length,rowE E,rowW m E,famW m E] (.tup []) [(0,boxG m (E.length+1)),(1,rowE (E++[⟨3,i,-1,c,jy s c,jo E c⟩])),(2,rowW m (E++[⟨3,i,-1,c,jy s c,jo E c⟩])),(3,famW m (E++[⟨3,i,-1,c,jy s c,jo E c⟩]))] 4:=by
 obtain ⟨w1,w2⟩:=hW c hc
 rw [qot (by omega)]
 have ht:=jhf m E hE ⟨3,i,-1,c,jy s c,((waitOf E c).getD 0 0:Nat)⟩ c hc rfl (zo ⟨rfl,.inr rfl⟩) w1
 unfold boxG rowE rowW famW at *
 refine zL {} 300 Tryz.func49 (fun c0 rdb mpb=>?_)
 (repeat' ((conv=>whnf);first|(apply zB <;> intro hb <;> (try simp [-zd] at hb) <;> try (exfalso;omega))))
 ((conv=>whnf);refine zQ 300 ?_)
 (repeat' ((conv=>whnf);first|refine Ob.auto ?_|fail))
 ((conv=>whnf);refine CallY.trip [0,1,2,3] (ht) (by kernel_rfl) leA qa (by exact qct ⟨fun _ _=>rfl,trivial⟩) (by exact qct ⟨fun _ _=>rfl,trivial⟩) ?_)
 (repeat' ((conv=>whnf);first|refine zA ?_|fail))
 exact ⟨Le.refl _,SoLe.refl _,SoLe.refl _,SoLe.refl _,SoLe.refl _,trivial⟩
theorem jwm (m:Md) (s t:Stt) (E:List Ev) (hE:E.length≤1000000) (i P e c:Nat) (hW:Waits m s E) (hP:P<m.procs.length) (he:e<(m.procs.getD P pr0).edges.length) (ha:((m.procs.getD P pr0).edges.getD e ed0).act=2) (hx:((m.procs.getD P pr0).edges.getD e ed0).chn=c) (hc:c<m.chans.length) (htl:t.chans.length=m.chans.length) (hq:0<(t.chans.getD c []).length) (hqb:(t.chans.getD c []).length≤1000000) :
  Trip Tryz.prog 49 [.ptr 0 0,iv i,(⟨0,P,e,0⟩:Mv).av,s.av,t.av] [boxG m E.length,rowE E,rowW m E,famW m E] (.tup []) [(0,boxG m (E.length+1)),(1,rowE (E++[⟨0,i,P,c,qdn t c,-1⟩])),(2,rowW m (E++[⟨0,i,P,c,qdn t c,-1⟩])),(3,famW m (E++[⟨0,i,P,c,qdn t c,-1⟩]))] 4:=by
 obtain ⟨w1,w2⟩:=hW c hc
 have ht:=jhf m E hE ⟨0,i,P,c,qdn t c,-1⟩ c hc rfl (zo ⟨rfl,.inl rfl⟩) w1
 unfold boxG rowE rowW famW at *
 have hq':0<(t.chans.getD ((m.procs.getD P pr0).edges.getD e ed0).chn.toNat []).length∧(t.chans.getD ((m.procs.getD P pr0).edges.getD e ed0).chn.toNat []).length≤1000000:=by rw [hx];exact ⟨hq,hqb⟩
 refine zL {} 300 Tryz.func49 (fun c0 rdb mpb=>?_)
 (repeat' ((conv=>whnf);first|refine zO ?_|refine Ob.auto ?_|(refine Ob.intro (by (first|exact ⟨by omega,by omega⟩|exact ⟨show (-9223372036854775808:Int)≤((t.chans.getD ((m.procs.getD P pr0).edges.getD e ed0).chn.toNat []).length:Int) - 1 by omega,show ((t.chans.getD ((m.procs.getD P pr0).edges.getD e ed0).chn.toNat []).length:Int) - 1≤9223372036854775807 by omega⟩|exact ⟨show (0:Int)≤((t.chans.getD ((m.procs.getD P pr0).edges.getD e ed0).chn.toNat []).length:Int) - 1 by omega,show ((t.chans.getD ((m.procs.getD P pr0).edges.getD e ed0).chn.toNat []).length:Int) - 1<((t.chans.getD ((m.procs.getD P pr0).edges.getD e ed0).chn.toNat []).length:Int) by omega⟩)) ?_)|refine zD 300 ?_|(apply zB <;> intro hb <;> (try simp [-zd] at hb) <;> try (exfalso;omega))))
 ((conv=>whnf);refine qcx (fun _=>rfl) 300 [0,1,2,3] (ht) (by kernel_rfl) ⟨Le.refl _,Le.agg ⟨Le.refl _,Le.refl _,Le.refl _,Le.of_eq (congrArg (AV.int _) hx),Le.of_eq (congrArg (AV.int _) ?_),Le.refl _,trivial⟩,trivial⟩ qa (by exact qct ⟨fun _ _=>rfl,trivial⟩) (by exact qct ⟨fun _ _=>rfl,trivial⟩) (by kernel_rfl) ?_)
 ·show (t.chans.getD ((m.procs.getD P pr0).edges.getD e ed0).chn.toNat []).getD (((t.chans.getD ((m.procs.getD P pr0).edges.getD e ed0).chn.toNat []).length:Int) - 1).toNat 0=qdn t c
  unfold qdn
  rw [hx,show ∀ n:Nat,((n:Int) - 1).toNat=n - 1 from fun n=>by omega]
 exact ⟨Le.refl _,SoLe.refl _,SoLe.refl _,SoLe.refl _,SoLe.refl _,trivial⟩
theorem jwn (m:Md) (s t:Stt) (E:List Ev) (hE:E.length≤1000000) (i P e c:Nat) (hW:Waits m s E) (hP:P<m.procs.length) (he:e<(m.procs.getD P pr0).edges.length) (ha:((m.procs.getD P pr0).edges.getD e ed0).act=3) (hx:((m.procs.getD P pr0).edges.getD e ed0).chn=c) (hc:c<m.chans.length) (hcl:s.chans.length=m.chans.length) (hq:0<(s.chans.getD c []).length) :
  Trip Tryz.prog 49 [.ptr 0 0,iv i,(⟨0,P,e,0⟩:Mv).av,s.av,t.av] [boxG m E.length,rowE E,rowW m E,famW m E] (.tup []) [(0,boxG m (E.length+1)),(1,rowE (E++[⟨1,i,P,c,jy s c,jo E c⟩])),(2,rowW m (E++[⟨1,i,P,c,jy s c,jo E c⟩])),(3,famW m (E++[⟨1,i,P,c,jy s c,jo E c⟩]))] 4:=by
 obtain ⟨w1,w2⟩:=hW c hc
 rw [qot (by omega)]
 have ht:=jhg m E hE 1 i P (jy s c) 0 c hc (zo ⟨rfl,.inl rfl⟩) w1 (by omega)
 unfold boxG rowE rowW famW at *
 have hq':0<(s.chans.getD ((m.procs.getD P pr0).edges.getD e ed0).chn.toNat []).length:=by rw [hx];exact hq
 refine zL {} 300 Tryz.func49 (fun c0 rdb mpb=>?_)
 (repeat' ((conv=>whnf);first|refine zO ?_|refine Ob.auto ?_|refine zD 300 ?_|(apply zB <;> intro hb <;> (try simp [-zd] at hb) <;> try (exfalso;omega))))
 ((conv=>whnf);refine qcx (fun _=>rfl) 300 [0,1,2,3] (ht) (by kernel_rfl) ⟨Le.refl _,Le.agg ⟨Le.refl _,Le.refl _,Le.refl _,Le.of_eq (congrArg (AV.int _) hx),Le.of_eq (congrArg (AV.int _) ?_),Le.refl _,trivial⟩,trivial⟩ qa (by exact qct ⟨fun _ _=>rfl,trivial⟩) (by exact qct ⟨fun _ _=>rfl,trivial⟩) (by kernel_rfl) ?_)
 ·show (s.chans.getD ((m.procs.getD P pr0).edges.getD e ed0).chn.toNat []).getD 0 0=jy s c
  unfold jy
  rw [hx]
 exact ⟨Le.refl _,SoLe.refl _,SoLe.refl _,SoLe.refl _,SoLe.refl _,trivial⟩
theorem jwo (m:Md) (s t:Stt) (E:List Ev) (i P e:Nat) (hP:P<m.procs.length) (he:e<(m.procs.getD P pr0).edges.length) (h2:((m.procs.getD P pr0).edges.getD e ed0).act≠2) (h3:((m.procs.getD P pr0).edges.getD e ed0).act≠3) :
  Trip Tryz.prog 49 [.ptr 0 0,iv i,(⟨0,P,e,0⟩:Mv).av,s.av,t.av] [boxG m E.length,rowE E,rowW m E,famW m E] (.tup []) [(0,boxG m E.length),(1,rowE E),(2,rowW m E),(3,famW m E)] 4:=by
 unfold boxG rowE rowW famW at *
 refine zL {} 300 Tryz.func49 (fun c0 rdb mpb=>?_)
 (repeat' ((conv=>whnf);first|refine zO ?_|refine Ob.auto ?_|refine zD 300 ?_|(apply zB <;> intro hb <;> (try simp [-zd] at hb) <;> try (exfalso;omega))))
 exact ⟨Le.refl _,SoLe.refl _,SoLe.refl _,SoLe.refl _,SoLe.refl _,trivial⟩
end Go.Proofs.YtcfllgdfhfcicaaGreatDoor
end
section
namespace Go.Proofs.YtcfllgdfhfcicaaGreatDoor
open Go Go.Sx Go.RowKit Go.St
set_option maxRecDepth 100000
set_option maxHeartbeats 4000000
theorem jwp (m:Md) (hM:ModOk m) (s:Stt) (hf:qm m s=true) (v:Mv) (h:je m s v=true) (E:List Ev) (hE:E.length≤1000000) (i:Nat) (hW:Waits m s E) :
  Trip Tryz.prog 49 [.ptr 0 0,iv i,v.av,s.av,(qu m s v).av] [boxG m E.length,rowE E,rowW m E,famW m E] (.tup [])
   [(0,boxG m (E++(evOf m s (qu m s v) i v E).toList).length),(1,rowE (E++(evOf m s (qu m s v) i v E).toList)),(2,rowW m (E++(evOf m s (qu m s v) i v E).toList)),(3,famW m (E++(evOf m s (qu m s v) i v E).toList))] 4:=by
 have hl:=((jg m s).1 hf).1.2.2.1
 have hft:=jfk hM hf h
 have htl:=((jg m _).1 hft).1.2.2.1
 have hW':=jgm hM hf h hW i
 cases qpe h with
 | lose c hc hq=>
  have:=jwk m s (qu m s ⟨1,0,0,c⟩) E hE i c hl hW hc hq
  rw [show (evOf m s (qu m s ⟨1,0,0,c⟩) i ⟨1,0,0,c⟩ E).toList=[⟨2,i,-1,c,jy s c,jo E c⟩] from rfl,zg]
  exact this
 | copy c hc hq=>
  have:=jwl m s (qu m s ⟨2,0,0,c⟩) E hE i c hl hW hc hq
  rw [show (evOf m s (qu m s ⟨2,0,0,c⟩) i ⟨2,0,0,c⟩ E).toList=[⟨3,i,-1,c,jy s c,jo E c⟩] from rfl,zg]
  exact this
 | edge P e hP he hcan=>
  have hed:=edOk hM hP he
  have hq:=qsl hcan
  have hte:edOf m ⟨0,P,e,0⟩=(edgesOf m P).getD e ed0:=rfl
  by_cases h2:((edgesOf m P).getD e ed0).act=2
  ·have hch:=hed.chn (.inl h2)
   obtain ⟨C,hC⟩:=xg hch.1
   have hC':C<m.chans.length:=by omega
   have hev:evOf m s (qu m s ⟨0,P,e,0⟩) i ⟨0,P,e,0⟩ E=some ⟨0,i,P,C,qdn (qu m s ⟨0,P,e,0⟩) C,-1⟩:=by
    unfold evOf
    rw [za (by simp),za (by simp),hte,zb h2,hC]
   have hss:=qcs hM hft
   have hlt:=hss.l _ (qe _ C [] (by omega))
   have hpos:0<((qu m s ⟨0,P,e,0⟩).chans.getD C []).length:=by
    have hw:=(hW' C hC').2
    have hwE:=(hW C hC').1
    rw [hev] at hw
    have:=(qov (E:=E) (e:=⟨0,i,P,C,qdn (qu m s ⟨0,P,e,0⟩) C,-1⟩) (c:=(C:Int)) (zo ⟨rfl,.inl rfl⟩) hwE).2.2
    rw [show (some (⟨0,i,P,C,qdn (qu m s ⟨0,P,e,0⟩) C,-1⟩:Ev)).toList=[⟨0,i,P,C,qdn (qu m s ⟨0,P,e,0⟩) C,-1⟩] from rfl,this,zg] at hw
    rw [← hw]
    exact Nat.succ_pos _
   have:=jwm m s (qu m s ⟨0,P,e,0⟩) E hE i P e C hW hP he h2 hC hC' htl hpos hlt
   rw [hev,show (some (⟨0,i,P,C,qdn (qu m s ⟨0,P,e,0⟩) C,-1⟩:Ev)).toList=[⟨0,i,P,C,qdn (qu m s ⟨0,P,e,0⟩) C,-1⟩] from rfl,zg]
   exact this
  ·by_cases h3:((edgesOf m P).getD e ed0).act=3
   ·have hch:=hed.chn (.inr h3)
    obtain ⟨C,hC⟩:=xg hch.1
    have hC':C<m.chans.length:=by omega
    have hev:evOf m s (qu m s ⟨0,P,e,0⟩) i ⟨0,P,e,0⟩ E=some ⟨1,i,P,C,jy s C,jo E C⟩:=by
     unfold evOf
     rw [za (by simp),za (by simp),hte,za h2,zb h3,hC]
    have hq:=hq h3
    rw [hC] at hq
    have:=jwn m s (qu m s ⟨0,P,e,0⟩) E hE i P e C hW hP he h3 hC hC' hl hq
    rw [hev,show (some (⟨1,i,P,C,jy s C,jo E C⟩:Ev)).toList=[⟨1,i,P,C,jy s C,jo E C⟩] from rfl,zg]
    exact this
   ·have hev:evOf m s (qu m s ⟨0,P,e,0⟩) i ⟨0,P,e,0⟩ E=none:=by
     unfold evOf
     rw [za (by simp),za (by simp),hte,za h2,za h3]
    have:=jwo m s (qu m s ⟨0,P,e,0⟩) E i P e hP he h2 h3
    rw [hev,show (none:Option Ev).toList=[] from rfl,zac]
    exact this
theorem qxz (x:AV):Le x .any:=Le.any _
theorem jwq (m:Md) (hM:ModOk m) (s:Stt) (hf:qm m s=true) (l:List Mv) (i:Nat) (hi:i<l.length) (h:je m s (l.getD i {})=true) (E:List Ev) (hE:E.length≤1000000) (hW:Waits m s E) :
  Trip Tryz.prog 48 [iv i,s.av,(qu m s (l.getD i {})).av,.ptr 0 0,.ptr 4 0] [boxG m E.length,rowE E,rowW m E,famW m E,.box 23 [qgc l]] (.tup [])
   [(0,boxG m (E++(evOf m s (qu m s (l.getD i {})) i (l.getD i {}) E).toList).length),(1,rowE (E++(evOf m s (qu m s (l.getD i {})) i (l.getD i {}) E).toList)),(2,rowW m (E++(evOf m s (qu m s (l.getD i {})) i (l.getD i {}) E).toList)),(3,famW m (E++(evOf m s (qu m s (l.getD i {})) i (l.getD i {}) E).toList)),(4,.box 23 [qgc l])] 5:=by
 have ht:=jwp m hM s hf (l.getD i {}) h E hE i hW
 generalize qu m s (l.getD i {})=t at ht ⊢
 generalize E++(evOf m s t i (l.getD i {}) E).toList=E' at ht ⊢
 unfold boxG rowE rowW famW at *
 refine zL {} 300 Tryz.func48 (fun c0 rdb mpb=>?_)
 ((conv=>whnf);refine zQ 300 ?_)
 (repeat' ((conv=>whnf);first|refine Ob.auto ?_|fail))
 ((conv=>whnf);refine CallY.trip [0,1,2,3] (ht) (by kernel_rfl) leA qa (by exact qct ⟨fun _ _=>rfl,trivial⟩) (by exact qct ⟨fun _ _=>rfl,trivial⟩) ?_)
 (repeat' ((conv=>whnf);first|refine zA ?_|fail))
 exact ⟨Le.refl _,SoLe.refl _,SoLe.refl _,SoLe.refl _,SoLe.refl _,SoLe.refl _,trivial⟩
theorem jwr (m:Md) (hM:ModOk m) (h0:qm m (qt m)=true) (l:List Mv) (hl:l.length≤1000000):Trip Tryz.prog 47 [m.av,qgc l,.fn 48 [.ptr 0 0,.ptr 2 0]]
  [.box 111 (m.cells++[.nils,.own 1 0 0 m.chans.length]),.row [] 28 1 0 m.chans.length (fun _=>[.nils]),.box 23 [qgc l]] (.tup [(stN m l (nF m l)).av,iv (nF m l)]) [(0,.box 111 (m.cells++[.own 6 0 0 (qcd m l).length,.any])),(6,.row [] 40 6 0 (qcd m l).length (encL Ev.cells {} (qcd m l)))] 7:=by
 refine zL {} 300 Tryz.func47 (fun c0 rdb mpb=>?_)
 (repeat' ((conv=>whnf);first|refine zC 300 (jwf m hM.ok) ?_|fail))
 refine qcm 0 7 40 6 rfl rfl ?_
 refine jbb 1 3 1 rfl (fun _ _=>rfl) ?_
 ((conv=>whnf);refine qo (fun _=>rfl) 300 1 (fun i:Nat=>[(17,iv i)]) (fun i=>[(5,.box 76 (stN m l i).cells),(0,.box 111 (m.cells++[.own 6 0 0 (evN m l i).length,.own 1 0 0 m.chans.length])),(6,.row [] 40 6 0 (evN m l i).length (encL Ev.cells {} (evN m l i))),(1,.row [7] 28 1 0 m.chans.length (fun k=>[.own 7 k (jh (evN m l i) k) (waitOf (evN m l i) k).length])),(7,.fam 3 1 m.chans.length (fun k=>jh (evN m l i) k) (fun k=>(waitOf (evN m l i) k).length) (fun k=>encL (fun n:Nat=>[iv n]) 0 (waitOf (evN m l i) k)))]) (fun i=>i≤l.length∧∀ j,j<i→okN m l j=true) (fun i=>l.length - i) (0) (⟨zx _,fun j hj=>absurd hj (zh j)⟩) qa ⟨⟨rfl,Le.refl _,Le.refl _,Le.refl _,Le.refl _,trivial⟩,⟨rfl,LeL.refl _⟩,qaz (fun k hk=>absurd hk (zh k)),qaz (fun _ _=>rfl),qeu (fun _ _=>rfl) (fun _ _=>rfl) (fun k j _ hj=>absurd hj (zh j)),trivial⟩ (fun _=>rfl) (by kernel_rfl) ?_;(conv=>whnf))
 rintro i ⟨hi,hp⟩
 have hf:=qhf hM h0 hp
 have hW:=jgo hM h0 hp
 have hE:=qou m l i
 by_cases hok:okN m l i=true
 ·have hdo:=jwg hM hf hok
  (repeat' ((conv=>whnf);first|refine Ob.auto ?_|refine zC 300 (hdo) ?_|(apply zB <;> intro hb <;> (try simp [-List.getD_eq_getElem?_getD] at hb) <;> try (exfalso;omega))))
  ·have hil:i<l.length:=by omega
   have ht:=jwq m hM (stN m l i) hf l i hil hok (evN m l i) (by omega) hW
   unfold boxG rowE rowW famW at ht
   ((conv=>whnf);refine qcx (fun _=>rfl) 300 [0,6,1,7,2] (ht) (by kernel_rfl) leA qa (by exact qct ⟨fun _ _=>rfl,trivial⟩) (by exact qct ⟨fun _ _=>rfl,trivial⟩) (by kernel_rfl) ?_)
   (repeat' ((conv=>whnf);first|refine Ob.auto ?_|fail))
   ((conv=>whnf);refine ⟨i+1,⟨by omega,qan hp hok⟩,⟨qa,⟨SoLe.refl _,SoLe.refl _,SoLe.refl _,SoLe.refl _,SoLe.refl _,trivial⟩⟩,⟨qa,qa⟩,?_⟩;(first|omega|(dsimp only;omega)|skip))
  ·obtain rfl:i=l.length:=by omega
   have hn:nF m l=l.length:=qmi hi hp (.inl rfl)
   rw [show qcd m l=evN m l l.length from by unfold qcd;rw [hn],hn]
   exact ⟨Le.tup ⟨Le.refl _,Le.refl _,trivial⟩,⟨rfl,Le.refl _,Le.refl _,Le.refl _,Le.refl _,Le.refl _,Le.refl _,Le.refl _,Le.refl _,qxz _,trivial⟩,SoLe.refl _,trivial⟩
 ·have hdo:=jwh hM hf (Bool.not_eq_true _ ▸ hok)
  (repeat' ((conv=>whnf);first|refine Ob.auto ?_|refine zC 300 (hdo) ?_|(apply zB <;> intro hb <;> (try simp [-List.getD_eq_getElem?_getD] at hb) <;> try (exfalso;omega))))
  ·have hn:nF m l=i:=qmi hi hp (.inr (Bool.not_eq_true _ ▸ hok))
   rw [show qcd m l=evN m l i from by unfold qcd;rw [hn],hn]
   exact ⟨Le.tup ⟨Le.refl _,Le.refl _,trivial⟩,⟨rfl,Le.refl _,Le.refl _,Le.refl _,Le.refl _,Le.refl _,Le.refl _,Le.refl _,Le.refl _,qxz _,trivial⟩,SoLe.refl _,trivial⟩
  ·obtain rfl:i=l.length:=by omega
   have hn:nF m l=l.length:=qmi hi hp (.inl rfl)
   rw [show qcd m l=evN m l l.length from by unfold qcd;rw [hn],hn]
   exact ⟨Le.tup ⟨Le.refl _,Le.refl _,trivial⟩,⟨rfl,Le.refl _,Le.refl _,Le.refl _,Le.refl _,Le.refl _,Le.refl _,Le.refl _,Le.refl _,qxz _,trivial⟩,SoLe.refl _,trivial⟩
theorem jws (m:Md) (hM:ModOk m) (h0:qm m (qt m)=true) (l:List Mv) (hl:l.length≤1000000):Con Tryz.prog 23 [m.av,qgc l] (evsV (qcd m l)):=by
 have hz:=hM.sz
 refine zK {} 300 Tryz.func23 (fun c0 rdb=>?_)
 (repeat' ((conv=>whnf);first|refine zO ?_|refine Ob.auto ?_|(refine Ob.intro (by (first|exact ⟨by omega,by omega⟩|(refine ⟨by omega,by omega,by omega,?_⟩;dsimp only;refine zbs (zaq (?_:_≤(4000001:Int)) (xr _)) (by decide +kernel);omega))) ?_)|refine zD 300 ?_|fail))
 ((conv=>whnf);refine zT 300 [8,6,1] (jwr m hM h0 l hl) (?_) ?_)
 ·exact ⟨⟨rfl,LeL.refl _⟩,qaz (fun k _=>by kernel_rfl),SoLe.refl _,trivial⟩
 (repeat' ((conv=>whnf);first|refine Ob.auto ?_|fail))
 exact Le.refl _
end Go.Proofs.YtcfllgdfhfcicaaGreatDoor
end
section
namespace Go.Proofs.YtcfllgdfhfcicaaGreatDoor
open Go Go.Sx Go.RowKit
set_option maxRecDepth 100000
theorem qst (ws:List (List UInt8)) (h0:0<ws.length) (hN:ws.length≤1000) (hl:(Lib.join ws [32]).length≤140737488355328):Con Tryz.prog 27 [strs ws,.str [32]] (.str (Lib.join ws [32])):=by
 refine qsq Tryz.func27 rfl (by kernel_rfl) [strs ws,.str [32]] _ fun rd w vs hm ha=>?_
 obtain ⟨a,b,rfl,h1,h2⟩:=qph ha
 obtain rfl:=qik h2
 obtain ⟨g,o,c,val,rfl,hc,hg,hv⟩:=jvn hm h1 h0
 have e:(ws.map fun s=>(⟨s.toArray⟩:ByteArray)).map (·.data.toList)=ws:=by
  rw [List.map_map]
  exact (xq fun x _=>rfl).trans (List.map_id _)
 have h:=Any.strings_Join Tryz.lays156 Tryz.Builder_Extra_156 g o c (ws.map fun s=>(⟨s.toArray⟩:ByteArray)) ⟨#[32]⟩ w (fun j x hx=>by
  rw [zj] at hx
  obtain ⟨s,hs,rfl⟩:=Option.map_eq_some_iff.1 hx
  have hj:=(List.getElem?_eq_some_iff.1 hs).1
  obtain ⟨hcell,hrel⟩:=hv j hj
  have:=qik (hrel (.str (ws.getD j [])) rfl)
  rw [hcell,this,List.getD_eq_getElem?_getD,hs]
  rfl) hg (by simp;omega) (by simpa using hc) (by rw [e];exact hl)
 rw [e,xh] at h
 exact h.mono fun x w' ⟨he,hb⟩=>⟨_,he,.str _ _,hb⟩
end Go.Proofs.YtcfllgdfhfcicaaGreatDoor
end
