/- Some texts of the library, one behind the other. -/
import Derived.Test.YtikahnkkfkoglaaGreatDoorY217
import Derived.Test.YtikahnkkfkoglaaGreatDoorY213
import Derived.Test.YtikahnkkfkoglaaGreatDoorY214
import Derived.Test.YtikahnkkfkoglaaGreatDoorY215
import Derived.Test.YtikahnkkfkoglaaGreatDoorY22
import Derived.Test.YtikahnkkfkoglaaGreatDoorY212
import Derived.Test.YtikahnkkfkoglaaGreatDoorY21
set_option linter.unusedSimpArgs false
set_option linter.unusedVariables false
section
namespace Go.Proofs.YtikahnkkfkoglaaGreatDoor
open List renaming getD_eq_getElem?_getD → zd
open Go Go.Sx Go.RowKit Go.St
set_option maxRecDepth 100000
set_option maxHeartbeats 4000000
theorem jsc (m:Md) (hM:ModOk m) (s:Stt) (c:Nat) (hf:fitsB m s=true) (h:qah m s ⟨2,0,0,c⟩=true):Con Tryz.prog 12 [m.av,s.av,(⟨2,0,0,c⟩:Mv).av] (jg m s ⟨2,0,0,c⟩).av:=by
 have hs:=qco hM hf
 unfold qah at h
 rw [za (by simp),zb (.inr rfl),zf] at h
 obtain ⟨h2,h3⟩:=h
 have h2:=zm h2
 simp only at h2
 have hcl:=((jn m s).1 hf).1.2.2.1
 have hq:0<(s.chans.getD c []).length:=by
  unfold qjg qlen at h3
  simp only [zr] at h3
  rw [za (by decide)] at h3
  simp only [zf,xd] at h3
  omega
 have hcc:c<s.chans.length:=by omega
 have hl:=hs.l _ (qk s.chans c [] hcc)
 refine zK {} 300 Tryz.func12 (fun c0 rdb=>?_)
 ((conv=>whnf);refine qgq (fun _=>rfl) 300 [] (jem s hs) (by kernel_rfl) leA qa (by exact qb rfl) (by exact qmh ⟨fun _ _=>rfl,trivial⟩) (by kernel_rfl) ?_)
 (repeat' ((conv=>whnf);first|refine zO ?_|refine Ob.auto ?_|refine zD 300 ?_|(apply zB <;> intro hb <;> (try simp [-zd] at hb) <;> try (exfalso;omega))|refine Ob.intro ?_ ?_|fail))
 ·refine ⟨hcc,⟨rfl,rfl⟩,show (s.chans.getD c []).length+1≤_ by omega,?_⟩
  refine xa (zu _ (show (s.chans.getD c []).length+1≤4000001 by omega)) ?_
  dsimp only;decide +kernel
 ·exact ⟨⟨⟨rfl,rfl⟩,hcc⟩,hcc,by simp [upd],by simp [upd]⟩
 ·refine ⟨⟨trivial,⟨rfl,rfl⟩,trivial⟩,⟨trivial,⟨rfl,rfl⟩,trivial⟩,⟨trivial,⟨rfl,rfl⟩,fun k hk=>?_⟩,trivial,trivial⟩
  show allP _ (if k=c then _ else _)
  by_cases hkc:k=c
  ·rw [zb hkc]
   exact ⟨⟨hcc,⟨(zb rfl).symm,(zb rfl).symm⟩,trivial⟩,trivial⟩
  ·rw [za hkc]
   exact ⟨⟨hk,⟨(za hkc).symm,(za hkc).symm⟩,trivial⟩,trivial⟩
 have hst:jg m s ⟨2,0,0,c⟩={ s with chans:=s.chans.set c (s.chans.getD c []++[(s.chans.getD c []).getD 0 0]),holder:=-1 }:=(za (by simp)).trans (zb rfl)
 rw [hst]
 refine Le.agg ⟨Le.refl _,Le.refl _,Le.slcL (by simp) (fun j hj=>?_),Le.of_eq (congrArg (AV.int _) h2.1),trivial⟩
 rw [← qcj (fun c=>[ints c]) [] s.chans c _ hcc j]
 show LeL (List.map _ (if j=c then _ else _)) _
 by_cases hjc:j=c
 ·rw [zb hjc,zb hjc]
  refine ⟨Le.slc (show (s.chans.getD c []).length+1=_ by rw [zg,zz]) (fun q hq=>?_),trivial⟩
  have hq':q<(s.chans.getD c []).length+1:=hq
  refine (congrFun (zb rfl) q).trans ?_
  exact qmq rfl hq'
 ·rw [za hjc,za hjc]
  refine ⟨Le.slc rfl (fun q hq=>congrFun (za hjc) q),trivial⟩
theorem jsd (m:Md) (hM:ModOk m) (s:Stt) (P E:Nat) (hf:fitsB m s=true) (h:qah m s ⟨0,P,E,0⟩=true) (ha:((m.procs.getD P pr0).edges.getD E ed0).act=2):Con Tryz.prog 12 [m.av,s.av,(⟨0,P,E,0⟩:Mv).av] (qeq m s P ((m.procs.getD P pr0).edges.getD E ed0)).av:=by
 have hs:=qco hM hf
 unfold qah at h
 rw [zb rfl,zf,zf] at h
 obtain ⟨h2,h3,h4⟩:=h
 have h3:=zm h3
 simp only at h3
 have h5:P<m.procs.length:=by omega
 have h6:E<(m.procs.getD P pr0).edges.length:=by have:=h3.2.2.2;rw [zr] at this;exact Int.ofNat_lt.1 this
 have hed:EdOk m.tree.length m.vars.length m.chans.length (m.procs.getD P pr0).places ((m.procs.getD P pr0).edges.getD E ed0):=edOk hM h5 h6
 have h4:canB m s P ((m.procs.getD P pr0).edges.getD E ed0)=true:=h4
 have hso:=qkv hM.ok hf
 have hat:s.at_.length=m.procs.length:=((jn m s).1 hf).1.1
 have hex:=hed.ex (.inr (.inl ha))
 have hch:=hed.chn (.inl ha)
 have hto:=hed.to
 have hcl:=((jn m s).1 hf).1.2.2.1
 have hT:=qpi hM hf (p:=P) hto (qpj h4)
 have hA:∀ j,(if j=P then [iv ((m.procs.getD P pr0).edges.getD E ed0).to] else encL (fun n=>[iv n]) 0 s.at_ j)=encL (fun n=>[iv n]) 0 (s.at_.set P ((m.procs.getD P pr0).edges.getD E ed0).to) j:=qcj (fun n=>[iv n]) 0 s.at_ P ((m.procs.getD P pr0).edges.getD E ed0).to (by omega)
 refine zK {} 300 Tryz.func12 (fun c0 rdb=>?_)
 ((conv=>whnf);refine qgq (fun _=>rfl) 300 [] (jem s hs) (by kernel_rfl) leA qa (by exact qb rfl) (by exact qmh ⟨fun _ _=>rfl,trivial⟩) (by kernel_rfl) ?_)
 (repeat' ((conv=>whnf);first|refine zO ?_|refine Ob.auto ?_|refine zC 300 (qhx m hM.ok P s hso m.tree.length ((m.procs.getD P pr0).edges.getD E ed0).expr (by omega) (by omega) (Nat.sub_le _ _)) ?_|refine zD 300 ?_|(apply zB <;> intro hb <;> (try simp [-zd] at hb) <;> try (exfalso;omega))))
 ((conv=>whnf);refine qbm (fun _=>rfl) (by kernel_rfl) 300 [.con (iv (trim (valN m P s m.tree.length ((m.procs.getD P pr0).edges.getD E ed0).expr).1 (m.chans.getD ((m.procs.getD P pr0).edges.getD E ed0).chn.toNat ch0).width))] (by kernel_rfl) ?_)
 have hcc:((m.procs.getD P pr0).edges.getD E ed0).chn.toNat<s.chans.length:=by omega
 have hl:=hs.l _ (qk s.chans ((m.procs.getD P pr0).edges.getD E ed0).chn.toNat [] hcc)
 (repeat' ((conv=>whnf);first|refine Ob.auto ?_|(refine Ob.intro (by (first|exact ⟨by omega,by omega⟩|exact ⟨_,qje (valN m P s m.tree.length ((m.procs.getD P pr0).edges.getD E ed0).expr).1 (m.chans.getD ((m.procs.getD P pr0).edges.getD E ed0).chn.toNat ch0).width,by rfl,LeL.refl _⟩)) ?_)|refine Ob.intro ?_ ?_|fail))
 ·refine ⟨hcc,⟨rfl,rfl⟩,show (s.chans.getD ((m.procs.getD P pr0).edges.getD E ed0).chn.toNat []).length+1≤_ by omega,?_⟩
  refine xa (zu _ (show (s.chans.getD ((m.procs.getD P pr0).edges.getD E ed0).chn.toNat []).length+1≤4000001 by omega)) ?_
  dsimp only;decide +kernel
 ·exact ⟨⟨⟨rfl,rfl⟩,hcc⟩,hcc,by simp [upd],by simp [upd]⟩
 have hTe:qt m s P ((m.procs.getD P pr0).edges.getD E ed0)=⟨s.at_.set P ((m.procs.getD P pr0).edges.getD E ed0).to,s.vars,s.chans.set ((m.procs.getD P pr0).edges.getD E ed0).chn.toNat (s.chans.getD ((m.procs.getD P pr0).edges.getD E ed0).chn.toNat []++[trim (valN m P s m.tree.length ((m.procs.getD P pr0).edges.getD E ed0).expr).1 (m.chans.getD ((m.procs.getD P pr0).edges.getD E ed0).chn.toNat ch0).width]),-1⟩:=by
  unfold qt val;simp only;rw [za (by omega),zb ha,za (by omega)]
 (conv=>whnf)
 refine qou (fun _=>rfl) 300 (fun hg=>qpp m hM (qt m s P ((m.procs.getD P pr0).edges.getD E ed0)) hT P h5) (fun hg=>⟨fun _=>?_,fun _=>?_,fun _=>trivial,trivial⟩) (fun hg=>And.intro (by exact Le.cnd hg) (And.intro (Le.trans (by exact Le.cnd hg) ?_) (And.intro (by exact Le.cnd hg) trivial))) (by rfl) (by kernel_rfl) ?_
 ·exact qc
 ·refine ⟨⟨trivial,⟨rfl,rfl⟩,trivial⟩,⟨trivial,⟨rfl,rfl⟩,trivial⟩,⟨trivial,⟨rfl,rfl⟩,fun k hk=>?_⟩,trivial,trivial⟩
  show allP _ (if k=((m.procs.getD P pr0).edges.getD E ed0).chn.toNat then _ else _)
  by_cases hkc:k=((m.procs.getD P pr0).edges.getD E ed0).chn.toNat
  ·rw [zb hkc]
   exact ⟨⟨hcc,⟨(zb rfl).symm,(zb rfl).symm⟩,trivial⟩,trivial⟩
  ·rw [za hkc]
   exact ⟨⟨hk,⟨(za hkc).symm,(za hkc).symm⟩,trivial⟩,trivial⟩
 ·rw [hTe]
  exact Le.agg ⟨Le.slc (by simp) (fun j hj=>hA j),Le.refl _,Le.slcL (by simp) (fun j hj=>by
   rw [← qcj (fun c=>[ints c]) [] s.chans ((m.procs.getD P pr0).edges.getD E ed0).chn.toNat _ hcc j]
   show LeL (List.map _ (if j=((m.procs.getD P pr0).edges.getD E ed0).chn.toNat then _ else _)) _
   by_cases hjc:j=((m.procs.getD P pr0).edges.getD E ed0).chn.toNat
   ·rw [zb hjc,zb hjc]
    refine ⟨Le.slc (show (s.chans.getD ((m.procs.getD P pr0).edges.getD E ed0).chn.toNat []).length+1=_ by rw [zg,zz]) (fun q hq=>?_),trivial⟩
    have hq':q<(s.chans.getD ((m.procs.getD P pr0).edges.getD E ed0).chn.toNat []).length+1:=hq
    refine (congrFun (zb rfl) q).trans ?_
    exact qmq rfl hq'
   ·rw [za hjc,za hjc]
    refine ⟨Le.slc rfl (fun q hq=>congrFun (za hjc) q),trivial⟩),Le.refl _,trivial⟩
 (repeat' ((conv=>whnf);first|refine Ob.auto ?_|(apply zB <;> intro hb <;> (try simp [-zd] at hb) <;> try (exfalso;omega))|refine Ob.intro ?_ ?_|fail))
 ·refine ⟨⟨trivial,⟨rfl,rfl⟩,trivial⟩,⟨trivial,⟨rfl,rfl⟩,trivial⟩,⟨trivial,⟨rfl,rfl⟩,fun k hk=>?_⟩,trivial,trivial⟩
  show allP _ (if k=((m.procs.getD P pr0).edges.getD E ed0).chn.toNat then _ else _)
  by_cases hkc:k=((m.procs.getD P pr0).edges.getD E ed0).chn.toNat
  ·rw [zb hkc]
   exact ⟨⟨hcc,⟨(zb rfl).symm,(zb rfl).symm⟩,trivial⟩,trivial⟩
  ·rw [za hkc]
   exact ⟨⟨hk,⟨(za hkc).symm,(za hkc).symm⟩,trivial⟩,trivial⟩
 ·refine Le.agg ⟨?_,?_,?_,Le.of_eq (congrArg (AV.int _) (zb hb).symm),trivial⟩
  ·show Le _ (ints (qt m s P ((m.procs.getD P pr0).edges.getD E ed0)).at_)
   rw [hTe];exact Le.slc (by simp) (fun j hj=>hA j)
  ·show Le _ (ints (qt m s P ((m.procs.getD P pr0).edges.getD E ed0)).vars)
   rw [hTe];exact Le.refl _
  ·show Le _ (slcL (fun l=>[ints l]) [] 1 (qt m s P ((m.procs.getD P pr0).edges.getD E ed0)).chans)
   rw [hTe]
   exact Le.slcL (by simp) (fun j hj=>by
    rw [← qcj (fun c=>[ints c]) [] s.chans ((m.procs.getD P pr0).edges.getD E ed0).chn.toNat _ hcc j]
    show LeL (List.map _ (if j=((m.procs.getD P pr0).edges.getD E ed0).chn.toNat then _ else _)) _
    by_cases hjc:j=((m.procs.getD P pr0).edges.getD E ed0).chn.toNat
    ·rw [zb hjc,zb hjc]
     refine ⟨Le.slc (show (s.chans.getD ((m.procs.getD P pr0).edges.getD E ed0).chn.toNat []).length+1=_ by rw [zg,zz]) (fun q hq=>?_),trivial⟩
     have hq':q<(s.chans.getD ((m.procs.getD P pr0).edges.getD E ed0).chn.toNat []).length+1:=hq
     refine (congrFun (zb rfl) q).trans ?_
     exact qmq rfl hq'
    ·rw [za hjc,za hjc]
     refine ⟨Le.slc rfl (fun q hq=>congrFun (za hjc) q),trivial⟩)
 ·refine ⟨⟨trivial,⟨rfl,rfl⟩,trivial⟩,⟨trivial,⟨rfl,rfl⟩,trivial⟩,⟨trivial,⟨rfl,rfl⟩,fun k hk=>?_⟩,trivial,trivial⟩
  show allP _ (if k=((m.procs.getD P pr0).edges.getD E ed0).chn.toNat then _ else _)
  by_cases hkc:k=((m.procs.getD P pr0).edges.getD E ed0).chn.toNat
  ·rw [zb hkc]
   exact ⟨⟨hcc,⟨(zb rfl).symm,(zb rfl).symm⟩,trivial⟩,trivial⟩
  ·rw [za hkc]
   exact ⟨⟨hk,⟨(za hkc).symm,(za hkc).symm⟩,trivial⟩,trivial⟩
 ·refine Le.agg ⟨?_,?_,?_,Le.of_eq (congrArg (AV.int _) (za (fun h=>by have:=hb h.1;rw [h.2] at this;cases this)).symm),trivial⟩
  ·show Le _ (ints (qt m s P ((m.procs.getD P pr0).edges.getD E ed0)).at_)
   rw [hTe];exact Le.slc (by simp) (fun j hj=>hA j)
  ·show Le _ (ints (qt m s P ((m.procs.getD P pr0).edges.getD E ed0)).vars)
   rw [hTe];exact Le.refl _
  ·show Le _ (slcL (fun l=>[ints l]) [] 1 (qt m s P ((m.procs.getD P pr0).edges.getD E ed0)).chans)
   rw [hTe]
   exact Le.slcL (by simp) (fun j hj=>by
    rw [← qcj (fun c=>[ints c]) [] s.chans ((m.procs.getD P pr0).edges.getD E ed0).chn.toNat _ hcc j]
    show LeL (List.map _ (if j=((m.procs.getD P pr0).edges.getD E ed0).chn.toNat then _ else _)) _
    by_cases hjc:j=((m.procs.getD P pr0).edges.getD E ed0).chn.toNat
    ·rw [zb hjc,zb hjc]
     refine ⟨Le.slc (show (s.chans.getD ((m.procs.getD P pr0).edges.getD E ed0).chn.toNat []).length+1=_ by rw [zg,zz]) (fun q hq=>?_),trivial⟩
     have hq':q<(s.chans.getD ((m.procs.getD P pr0).edges.getD E ed0).chn.toNat []).length+1:=hq
     refine (congrFun (zb rfl) q).trans ?_
     exact qmq rfl hq'
    ·rw [za hjc,za hjc]
     refine ⟨Le.slc rfl (fun q hq=>congrFun (za hjc) q),trivial⟩)
theorem jer (m:Md) (hM:ModOk m) (s:Stt) (v:Mv) (hf:fitsB m s=true) (h:qah m s v=true):Con Tryz.prog 12 [m.av,s.av,v.av] (jg m s v).av:=by
 by_cases hk:v.kind=1
 ·exact jsa m hM s v hf h hk
 ·have h':=h
  unfold qah at h
  split at h
  ·rename_i h0
   rw [zf,zf] at h
   obtain ⟨ha,hb,_⟩:=h
   have h2:=zm ha
   have h3:=zm hb
   clear ha hb
   obtain ⟨k,p,e,c⟩:=v
   simp only at h0 h2 h3
   obtain ⟨P,rfl⟩:=zaf h3.1
   obtain ⟨E,rfl⟩:=zaf h3.2.2.1
   obtain ⟨h2,_⟩:=h2
   subst h0 h2
   have hst:jg m s ⟨0,P,E,0⟩=qeq m s P ((m.procs.getD P pr0).edges.getD E ed0):=rfl
   rw [hst]
   by_cases ha:((m.procs.getD P pr0).edges.getD E ed0).act=2
   ·exact jsd m hM s P E hf h' ha
   ·exact jsb m hM s P E hf h' ha
  ·split at h
   ·rename_i h0
    rw [zf] at h
    obtain ⟨ha,_⟩:=h
    have h2:=zm ha
    clear ha
    obtain ⟨k,p,e,c⟩:=v
    simp only at h0 h2 hk
    obtain ⟨C,rfl⟩:=zaf h2.2.2.2.1
    obtain rfl:k=2:=by omega
    obtain rfl:p=0:=h2.2.1
    obtain rfl:e=0:=h2.2.2.1
    exact jsc m hM s C hf h'
   ·cases h
theorem jse (m:Md) (hM:ModOk m) (most:Int) (hm:most≤20000) (L:List Fnd) (hL:LOk m most L) (at_:Nat) (ha:at_<L.length) :
  Trip Tryz.prog 43 [.ptr 0 0,iv at_,iv most,.bool false] [sBox m L false,sSt L,sFr L,sBy L,sFa L]
   (.bool (!(jo m most (fun _=>false) at_ L).2.1))
   [(0,sBox m (jo m most (fun _=>false) at_ L).1 (!(jo m most (fun _=>false) at_ L).2.1)),(1,sSt (jo m most (fun _=>false) at_ L).1),(2,sFr (jo m most (fun _=>false) at_ L).1),(3,sBy (jo m most (fun _=>false) at_ L).1),(4,sFa (jo m most (fun _=>false) at_ L).1)] 5:=by
 have hle:=hL.le
 have hmem:L.getD at_ Fnd.none∈L:=by
  rw [zd,ze ha]
  exact zaa ha
 have hfit:=hL.fit _ hmem
 have hdep:=hL.dep at_ ha
 have hml:=qxa hM (L.getD at_ Fnd.none).s
 unfold jo
 have hmv:=qxb m hM (L.getD at_ Fnd.none).s hfit
 generalize hR:qbk m most (fun _=>false) (L.getD at_ Fnd.none) (at_:Int) (qp m (L.getD at_ Fnd.none).s) L=R
 unfold sBox sSt sFr sBy sFa
 refine zM {} 300 Tryz.func43 (fun c0 rdb mpb=>?_)
 (repeat' ((conv=>whnf);first|refine zA ?_|refine zO ?_|refine Ob.auto ?_|refine zI ?_|refine zD 300 ?_|(apply zB <;> intro hb <;> (try simp [-zd] at hb) <;> try (exfalso;omega))|refine Ob.intro ?_ ?_))
 (repeat' ((conv=>whnf);first|refine zA ?_|refine zO ?_|refine Ob.auto ?_|refine zI ?_|refine zC 300 (hmv) ?_|refine zG 300 (fun hg=>hmv) ?_|(refine CallY.con (hmv) (by rfl) leA ?_)|(refine CallZ.con (fun hg=>hmv) qz (by rfl) ?_)|(refine qi (fun _=>rfl) 300 (hmv) qc (by (repeat' (first|exact trivial|exact Le.refl _|(refine And.intro ?_ ?_))) <;> fail) (by rfl) (by kernel_rfl) ?_)|(refine qq (fun _=>rfl) 300 (fun hg=>hmv) (fun hg=>qc) (fun hg=>(by (repeat' (first|exact trivial|exact Le.refl _|exact Le.cnd hg|(refine And.intro ?_ ?_))) <;> fail)) (by rfl) (by kernel_rfl) ?_)|refine zD 300 ?_|(refine zQ 300 ?_)|(apply zB <;> intro hb <;> (try simp [-zd] at hb) <;> try (exfalso;omega))|refine Ob.intro ?_ ?_))
 ((conv=>whnf);refine qm (fun _=>rfl) 300 1 (fun g:Nat × List Fnd=>[(10,iv g.1)]) (fun g=>[(0,.box 43 (m.cells++[.own 1 0 0 g.2.length,.own 2 0 0 g.2.length,.own 3 0 0 g.2.length,.own 4 0 0 g.2.length,.bool false])),(1,.row [] 40 4 0 g.2.length (encL (fun f:Fnd=>f.s.cells) Fnd.none g.2)),(2,.row [] 3 1 0 g.2.length (encL (fun f:Fnd=>[iv f.frm]) Fnd.none g.2)),(3,.row [] 48 4 0 g.2.length (encL (fun f:Fnd=>f.mv.cells) Fnd.none g.2)),(4,.row [] 3 1 0 g.2.length (encL (fun f:Fnd=>[iv f.depth]) Fnd.none g.2))]) (fun g=>g.1≤(qp m (L.getD at_ Fnd.none).s).length∧LOk m most g.2∧at_<g.2.length∧g.2.getD at_ Fnd.none=L.getD at_ Fnd.none∧qbk m most (fun _=>false) (L.getD at_ Fnd.none) (at_:Int) ((qp m (L.getD at_ Fnd.none).s).drop g.1) g.2=R) (fun g=>(qp m (L.getD at_ Fnd.none).s).length - g.1) ((0,L)) (⟨zv _,hL,ha,rfl,hR⟩) qa qa (fun _=>rfl) (by kernel_rfl) ?_;(conv=>whnf))
 clear hR hmv
 rintro ⟨i,K⟩ ⟨hi,hK,hak,hKg,hsp⟩
 simp only at hi hK hak hKg hsp
 have hKle:=hK.le
 generalize L.getD at_ Fnd.none=g at *
 by_cases hil:i<(qp m g.s).length
 ·have hv:qah m g.s ((qp m g.s).getD i {})=true:=mem_movesF.1 (qk _ i {} hil)
  have hd1:inR .i64 (g.depth+1):=⟨by show (-9223372036854775808:Int)≤_;omega,by show _≤(9223372036854775807:Int);omega⟩
  have hdo:Con Tryz.prog 12 [m.av,(K.getD at_ Fnd.none).s.av,((qp m g.s).getD i {}).av] (jg m g.s ((qp m g.s).getD i {})).av:=by
   rw [hKg];exact jer m hM g.s ((qp m g.s).getD i {}) hfit hv
  have hs':=qta hM hfit hv
  rw [qgz _ i {} hil,qbk] at hsp
  have hkn:=jrn m hM K hK.fit (by omega) false (jg m g.s ((qp m g.s).getD i {})) hs'
  unfold sBox sSt sFr sBy sFa at hkn
  (repeat' ((conv=>whnf);first|refine zA ?_|refine zO ?_|refine Ob.auto ?_|refine zI ?_|refine zD 300 ?_|(apply zB <;> intro hb <;> (try simp [-zd] at hb) <;> try (exfalso;omega))|refine Ob.intro ?_ ?_))
  (repeat' ((conv=>whnf);first|refine zO ?_|refine Ob.auto ?_|(refine Ob.intro (by (first|exact ⟨by omega,by omega⟩|exact hd1)) ?_)|refine zC 300 (hdo) ?_|refine zG 300 (fun hg=>hdo) ?_|(refine CallY.con (hdo) (by rfl) leA ?_)|(refine CallZ.con (fun hg=>hdo) qz (by rfl) ?_)|(refine qi (fun _=>rfl) 300 (hdo) qc (by (repeat' (first|exact trivial|exact Le.refl _|(refine And.intro ?_ ?_))) <;> fail) (by rfl) (by kernel_rfl) ?_)|(refine qq (fun _=>rfl) 300 (fun hg=>hdo) (fun hg=>qc) (fun hg=>(by (repeat' (first|exact trivial|exact Le.refl _|exact Le.cnd hg|(refine And.intro ?_ ?_))) <;> fail)) (by rfl) (by kernel_rfl) ?_)|refine zD 300 ?_|(refine qbc (fun _=>rfl) (by kernel_rfl) 300 ?_)|(apply zB <;> intro hb <;> (try simp [-zd] at hb) <;> try (exfalso;omega))|refine Ob.intro ?_ ?_))
  ((conv=>whnf);refine AltG.far 17 [0,1] (by kernel_rfl) farA (EndG.go ?_))
  (repeat' ((conv=>whnf);first|refine zA ?_|refine zO ?_|refine Ob.auto ?_|(refine Ob.intro (by (first|exact ⟨by omega,by omega⟩|exact hd1)) ?_)|refine zD 300 ?_|(apply zB <;> intro hb <;> (try simp [-zd] at hb) <;> try (exfalso;omega))|refine Ob.intro ?_ ?_))
  ((conv=>whnf);refine zT 300 [0,1,2,3,4] (hkn) qa ?_)
  generalize hT:jg m g.s ((qp m g.s).getD i {})=T at *
  clear hdo hkn
  (repeat' ((conv=>whnf);first|refine zA ?_|refine zO ?_|refine Ob.auto ?_|(refine Ob.intro (by (first|exact ⟨by omega,by omega⟩|exact hd1)) ?_)|refine zD 300 ?_|(apply zB <;> intro hb <;> (try simp [-zd] at hb) <;> try (exfalso;omega))|refine Ob.intro ?_ ?_))
  ·have hk:qgd K T=true:=by assumption
   have hA:addF most K ⟨T,at_,(qp m g.s).getD i {},g.depth+1⟩=(K,true):=zb hk
   rw [hA,za (fun h=>by cases h),za (fun h=>by cases h.2)] at hsp
   ((conv=>whnf);refine ⟨(i+1,K),⟨hil,hK,hak,hKg,hsp⟩,⟨qa,qa⟩,⟨qa,qa⟩,?_⟩;(first|omega|(dsimp only;omega)|skip))
  ·rename_i hk
   have hk:¬ qgd K T=true:=by rw [hk];decide
   have hA:addF most K ⟨T,at_,(qp m g.s).getD i {},g.depth+1⟩=(K,false):=by
    unfold addF
    rw [za hk,zb (by assumption)]
   rw [hA,zb rfl] at hsp
   subst hsp
   exact ⟨Le.refl _,qa⟩
  ·rename_i hk
   have hk:¬ qgd K T=true:=by rw [hk];decide
   have hne:¬ (K.length:Int)=most:=by assumption
   have hA:addF most K ⟨T,at_,(qp m g.s).getD i {},g.depth+1⟩=(K++[⟨T,at_,(qp m g.s).getD i {},g.depth+1⟩],true):=by
    unfold addF
    rw [za hk,za hne]
   have hKA:=hK.add (f:=⟨T,at_,(qp m g.s).getD i {},g.depth+1⟩) hs' (by simp only;omega) (by simp only;omega)
   rw [hA] at hKA
   rw [hA,za (fun h=>by cases h),za (fun h=>by cases h.2)] at hsp
   (repeat' ((conv=>whnf);first|refine zA ?_|refine zO ?_|refine Ob.auto ?_|(refine Ob.intro (by (first|exact ⟨by omega,by omega⟩|exact hd1)) ?_)|refine zC 300 ((by simp at hg:Con Tryz.prog 13 [m.av,T.av] (.bool false))) ?_|refine zG 300 (fun hg=>(by simp at hg:Con Tryz.prog 13 [m.av,T.av] (.bool false))) ?_|(refine CallY.con ((by simp at hg:Con Tryz.prog 13 [m.av,T.av] (.bool false))) (by rfl) leA ?_)|(refine CallZ.con (fun hg=>(by simp at hg:Con Tryz.prog 13 [m.av,T.av] (.bool false))) qz (by rfl) ?_)|(refine qi (fun _=>rfl) 300 ((by simp at hg:Con Tryz.prog 13 [m.av,T.av] (.bool false))) qc (by (repeat' (first|exact trivial|exact Le.refl _|(refine And.intro ?_ ?_))) <;> fail) (by rfl) (by kernel_rfl) ?_)|(refine qq (fun _=>rfl) 300 (fun hg=>(by simp at hg:Con Tryz.prog 13 [m.av,T.av] (.bool false))) (fun hg=>qc) (fun hg=>(by (repeat' (first|exact trivial|exact Le.refl _|exact Le.cnd hg|(refine And.intro ?_ ?_))) <;> fail)) (by rfl) (by kernel_rfl) ?_)|refine zD 300 ?_|(refine zQ 300 ?_)|(apply zB <;> intro hb <;> (try simp [-zd] at hb) <;> try (exfalso;omega))|refine Ob.intro ?_ ?_))
   have hlen:∀ r:Nat,Le (AV.own r 0 0 (K.length+1)) (AV.own r 0 0 (K++[(⟨T,at_,(qp m g.s).getD i {},g.depth+1⟩:Fnd)]).length):=fun r=>Le.of_eq (congrArg (AV.own r 0 0) (by simp))
   ((conv=>whnf);refine ⟨(i+1,K++[⟨T,at_,(qp m g.s).getD i {},g.depth+1⟩]),⟨hil,hKA,by simp only [zg,zz];omega,by rw [qjj (by omega),zb hak];exact hKg,hsp⟩,⟨qa,⟨⟨rfl,Le.refl _,Le.refl _,Le.refl _,Le.refl _,Le.refl _,Le.refl _,Le.refl _,hlen 1,hlen 2,hlen 3,hlen 4,Le.refl _,trivial⟩,⟨⟨rfl,rfl,rfl⟩,rfl,by simp,qhv (enc:=fun f:Fnd=>f.s.cells) (d:=Fnd.none) (x:=⟨T,at_,(qp m g.s).getD i {},g.depth+1⟩) rfl⟩,⟨⟨rfl,rfl,rfl⟩,rfl,by simp,qhv (enc:=fun f:Fnd=>[iv f.frm]) (d:=Fnd.none) (x:=⟨T,at_,(qp m g.s).getD i {},g.depth+1⟩) rfl⟩,⟨⟨rfl,rfl,rfl⟩,rfl,by simp,qhv (enc:=fun f:Fnd=>f.mv.cells) (d:=Fnd.none) (x:=⟨T,at_,(qp m g.s).getD i {},g.depth+1⟩) rfl⟩,⟨⟨rfl,rfl,rfl⟩,rfl,by simp,qhv (enc:=fun f:Fnd=>[iv f.depth]) (d:=Fnd.none) (x:=⟨T,at_,(qp m g.s).getD i {},g.depth+1⟩) (congrArg (fun f:Fnd=>[iv (f.depth+1)]) hKg)⟩,trivial⟩⟩,⟨qa,qa⟩,?_⟩;(first|omega|(dsimp only;omega)|skip))
 ·obtain rfl:i=(qp m g.s).length:=by omega
  rw [List.drop_length,qbk] at hsp
  subst hsp
  (repeat' ((conv=>whnf);first|refine zA ?_|refine zO ?_|refine Ob.auto ?_|refine zI ?_|refine zD 300 ?_|(apply zB <;> intro hb <;> (try simp [-zd] at hb) <;> try (exfalso;omega))|refine Ob.intro ?_ ?_))
  exact ⟨Le.refl _,qa⟩
end Go.Proofs.YtikahnkkfkoglaaGreatDoor
end
section
namespace Go.Proofs.YtikahnkkfkoglaaGreatDoor
open Go Go.Sx Go.RowKit Go.St
set_option maxRecDepth 100000
set_option maxHeartbeats 4000000
def kBox (m:Md) (most:Int) (L:List Fnd):SO:=.box 71 (m.cells++[iv most,.own 2 0 0 L.length,.mapv 1])
def kMap (L:List Fnd):SO:=.box jh [.keys (qgc L)]
def kRow (L:List Fnd):SO:=.row [] 67 10 0 L.length (encL Fnd.cells Fnd.none L)
theorem jsf (L:List Fnd) (f:Fnd):qgc (L++[f])=qgc L++[keyT f.s]:=by simp [qgc]
theorem jes (m:Md) (hM:ModOk m) (most:Int) (L:List Fnd) (hL:L.length≤20000) (f:Fnd) (hf:fitsB m f.s=true) :
  Trip Tryz.prog 24 [.ptr 0 0,.agg f.cells] [kBox m most L,kMap L,kRow L] (.bool (addF most L f).2)
   [(0,kBox m most (addF most L f).1),(1,kMap (addF most L f).1),(2,kRow (addF most L f).1)] 3:=by
 have hk:=jql f.s (qco hM hf) (jrj hM hf)
 unfold kBox kMap kRow
 refine zM {} 300 Tryz.func24 (fun c0 rdb mpb=>?_)
 (repeat' ((conv=>whnf);first|refine zA ?_|refine zO ?_|refine Ob.auto ?_|refine zI ?_|refine zC 300 (hk) ?_|refine zG 300 (fun hg=>hk) ?_|(refine CallY.con (hk) (by rfl) leA ?_)|(refine CallZ.con (fun hg=>hk) qz (by rfl) ?_)|(refine qi (fun _=>rfl) 300 (hk) qc (by (repeat' (first|exact trivial|exact Le.refl _|(refine And.intro ?_ ?_))) <;> fail) (by rfl) (by kernel_rfl) ?_)|(refine qq (fun _=>rfl) 300 (fun hg=>hk) (fun hg=>qc) (fun hg=>(by (repeat' (first|exact trivial|exact Le.refl _|exact Le.cnd hg|(refine And.intro ?_ ?_))) <;> fail)) (by rfl) (by kernel_rfl) ?_)|refine zD 300 ?_|(apply zB <;> intro hb <;> (try simp [-List.getD_eq_getElem?_getD] at hb) <;> try (exfalso;omega))|refine Ob.intro ?_ ?_))
 ·have e:addF most L f=(L,true):=zb hb
  rw [e]
  exact ⟨Le.refl _,qa⟩
 ·rename_i hk0
  have e:addF most L f=(L,false):=by
   unfold addF qgd
   rw [za (by rw [hk0];decide),zb hb]
  rw [e]
  exact ⟨Le.refl _,qa⟩
 ·rename_i hk0
  have e:addF most L f=(L++[f],true):=by
   unfold addF qgd
   rw [za (by rw [hk0];decide),za hb]
  rw [e]
  refine ⟨Le.refl _,⟨rfl,Le.refl _,Le.refl _,Le.refl _,Le.refl _,Le.refl _,Le.refl _,Le.refl _,Le.refl _,Le.of_eq (congrArg (AV.own 2 0 0) (by simp)),Le.refl _,trivial⟩,⟨rfl,Le.of_eq (congrArg AV.keys ?_),trivial⟩,⟨⟨rfl,rfl,rfl⟩,rfl,by simp,qhv (enc:=Fnd.cells) (d:=Fnd.none) (x:=f) rfl⟩,trivial⟩
  rw [jsf,hk0];rfl
end Go.Proofs.YtikahnkkfkoglaaGreatDoor
end
