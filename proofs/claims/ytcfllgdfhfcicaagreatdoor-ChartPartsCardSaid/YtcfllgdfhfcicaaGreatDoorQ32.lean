/- Some texts of the library, one behind the other. -/
import Derived.Test.YtcfllgdfhfcicaaGreatDoorQ31
import Derived.Test.YtcfllgdfhfcicaaGreatDoorQ27
import Derived.Test.YtcfllgdfhfcicaaGreatDoorQ25
import Derived.Test.YtcfllgdfhfcicaaGreatDoorQ26
import Derived.Test.YtcfllgdfhfcicaaGreatDoorQ29
import Derived.Test.YtcfllgdfhfcicaaGreatDoorQ2
set_option linter.unusedSimpArgs false
set_option linter.unusedVariables false
section
namespace Go.Proofs.YtcfllgdfhfcicaaGreatDoor
open List renaming getD_eq_getElem?_getD → zd
open Go Go.Sx Go.RowKit Go.St
set_option maxRecDepth 100000
set_option maxHeartbeats 4000000
theorem jvb (m:Md) (hM:ModOk m) (s:Stt) (c:Nat) (hf:qm m s=true) (h:je m s ⟨2,0,0,c⟩=true):Con Tryz.prog 32 [m.av,s.av,(⟨2,0,0,c⟩:Mv).av] (qu m s ⟨2,0,0,c⟩).av:=by
 have hs:=qcs hM hf
 unfold je at h
 rw [za (by simp),zb (.inr rfl),zf] at h
 obtain ⟨h2,h3⟩:=h
 have h2:=zi h2
 simp only at h2
 have hcl:=((jg m s).1 hf).1.2.2.1
 have hq:0<(s.chans.getD c []).length:=by
  unfold qig qlen at h3
  simp only [zu] at h3
  rw [za (by decide)] at h3
  simp only [zf,xd] at h3
  omega
 have hcc:c<s.chans.length:=by omega
 have hl:=hs.l _ (qe s.chans c [] hcc)
 refine zK {} 300 Tryz.func32 (fun c0 rdb=>?_)
 ((conv=>whnf);refine qcx (fun _=>rfl) 300 [] (jgc s hs) (by kernel_rfl) leA qa (by exact qb rfl) (by exact qct ⟨fun _ _=>rfl,trivial⟩) (by kernel_rfl) ?_)
 (repeat' ((conv=>whnf);first|refine zO ?_|refine Ob.auto ?_|refine zD 300 ?_|(apply zB <;> intro hb <;> (try simp [-zd] at hb) <;> try (exfalso;omega))|refine Ob.intro ?_ ?_|fail))
 ·refine ⟨hcc,⟨rfl,rfl⟩,show (s.chans.getD c []).length+1≤_ by omega,?_⟩
  refine xc (xb _ (show (s.chans.getD c []).length+1≤4000001 by omega)) ?_
  dsimp only;decide +kernel
 ·exact ⟨⟨⟨rfl,rfl⟩,hcc⟩,hcc,by simp [upd],by simp [upd]⟩
 ·refine ⟨⟨trivial,⟨rfl,rfl⟩,trivial⟩,⟨trivial,⟨rfl,rfl⟩,trivial⟩,⟨trivial,⟨rfl,rfl⟩,fun k hk=>?_⟩,trivial,trivial⟩
  show allP _ (if k=c then _ else _)
  by_cases hkc:k=c
  ·rw [zb hkc]
   exact ⟨⟨hcc,⟨(zb rfl).symm,(zb rfl).symm⟩,trivial⟩,trivial⟩
  ·rw [za hkc]
   exact ⟨⟨hk,⟨(za hkc).symm,(za hkc).symm⟩,trivial⟩,trivial⟩
 have hst:qu m s ⟨2,0,0,c⟩={ s with chans:=s.chans.set c (s.chans.getD c []++[(s.chans.getD c []).getD 0 0]),holder:=-1 }:=(za (by simp)).trans (zb rfl)
 rw [hst]
 refine Le.agg ⟨Le.refl _,Le.refl _,Le.slcL (by simp) (fun j hj=>?_),Le.of_eq (congrArg (AV.int _) h2.1),trivial⟩
 rw [← qcl (fun c=>[ints c]) [] s.chans c _ hcc j]
 show LeL (List.map _ (if j=c then _ else _)) _
 by_cases hjc:j=c
 ·rw [zb hjc,zb hjc]
  refine ⟨Le.slc (show (s.chans.getD c []).length+1=_ by rw [zg,zq]) (fun q hq=>?_),trivial⟩
  have hq':q<(s.chans.getD c []).length+1:=hq
  refine (congrFun (zb rfl) q).trans ?_
  exact qmj rfl hq'
 ·rw [za hjc,za hjc]
  refine ⟨Le.slc rfl (fun q hq=>congrFun (za hjc) q),trivial⟩
theorem jvc (m:Md) (hM:ModOk m) (s:Stt) (P E:Nat) (hf:qm m s=true) (h:je m s ⟨0,P,E,0⟩=true) (ha:((m.procs.getD P pr0).edges.getD E ed0).act=2):Con Tryz.prog 32 [m.av,s.av,(⟨0,P,E,0⟩:Mv).av] (qbq m s P ((m.procs.getD P pr0).edges.getD E ed0)).av:=by
 have hs:=qcs hM hf
 unfold je at h
 rw [zb rfl,zf,zf] at h
 obtain ⟨h2,h3,h4⟩:=h
 have h3:=zi h3
 simp only at h3
 have h5:P<m.procs.length:=by omega
 have h6:E<(m.procs.getD P pr0).edges.length:=by have:=h3.2.2.2;rw [zu] at this;exact Int.ofNat_lt.1 this
 have hed:EdOk m.tree.length m.vars.length m.chans.length (m.procs.getD P pr0).places ((m.procs.getD P pr0).edges.getD E ed0):=edOk hM h5 h6
 have h4:canB m s P ((m.procs.getD P pr0).edges.getD E ed0)=true:=h4
 have hso:=qow hM.ok hf
 have hat:s.at_.length=m.procs.length:=((jg m s).1 hf).1.1
 have hex:=hed.ex (.inr (.inl ha))
 have hch:=hed.chn (.inl ha)
 have hto:=hed.to
 have hcl:=((jg m s).1 hf).1.2.2.1
 have hT:=qor hM hf (p:=P) hto (qos h4)
 have hA:∀ j,(if j=P then [iv ((m.procs.getD P pr0).edges.getD E ed0).to] else encL (fun n=>[iv n]) 0 s.at_ j)=encL (fun n=>[iv n]) 0 (s.at_.set P ((m.procs.getD P pr0).edges.getD E ed0).to) j:=qcl (fun n=>[iv n]) 0 s.at_ P ((m.procs.getD P pr0).edges.getD E ed0).to (by omega)
 refine zK {} 300 Tryz.func32 (fun c0 rdb=>?_)
 ((conv=>whnf);refine qcx (fun _=>rfl) 300 [] (jgc s hs) (by kernel_rfl) leA qa (by exact qb rfl) (by exact qct ⟨fun _ _=>rfl,trivial⟩) (by kernel_rfl) ?_)
 (repeat' ((conv=>whnf);first|refine zO ?_|refine Ob.auto ?_|refine zC 300 (qxf m hM.ok P s hso m.tree.length ((m.procs.getD P pr0).edges.getD E ed0).expr (by omega) (by omega) (Nat.sub_le _ _)) ?_|refine zD 300 ?_|(apply zB <;> intro hb <;> (try simp [-zd] at hb) <;> try (exfalso;omega))))
 ((conv=>whnf);refine qbh (fun _=>rfl) (by kernel_rfl) 300 [.con (iv (trim (valN m P s m.tree.length ((m.procs.getD P pr0).edges.getD E ed0).expr).1 (m.chans.getD ((m.procs.getD P pr0).edges.getD E ed0).chn.toNat ch0).width))] (by kernel_rfl) ?_)
 have hcc:((m.procs.getD P pr0).edges.getD E ed0).chn.toNat<s.chans.length:=by omega
 have hl:=hs.l _ (qe s.chans ((m.procs.getD P pr0).edges.getD E ed0).chn.toNat [] hcc)
 (repeat' ((conv=>whnf);first|refine Ob.auto ?_|(refine Ob.intro (by (first|exact ⟨by omega,by omega⟩|exact ⟨_,qji (valN m P s m.tree.length ((m.procs.getD P pr0).edges.getD E ed0).expr).1 (m.chans.getD ((m.procs.getD P pr0).edges.getD E ed0).chn.toNat ch0).width,by rfl,LeL.refl _⟩)) ?_)|refine Ob.intro ?_ ?_|fail))
 ·refine ⟨hcc,⟨rfl,rfl⟩,show (s.chans.getD ((m.procs.getD P pr0).edges.getD E ed0).chn.toNat []).length+1≤_ by omega,?_⟩
  refine xc (xb _ (show (s.chans.getD ((m.procs.getD P pr0).edges.getD E ed0).chn.toNat []).length+1≤4000001 by omega)) ?_
  dsimp only;decide +kernel
 ·exact ⟨⟨⟨rfl,rfl⟩,hcc⟩,hcc,by simp [upd],by simp [upd]⟩
 have hTe:qn m s P ((m.procs.getD P pr0).edges.getD E ed0)=⟨s.at_.set P ((m.procs.getD P pr0).edges.getD E ed0).to,s.vars,s.chans.set ((m.procs.getD P pr0).edges.getD E ed0).chn.toNat (s.chans.getD ((m.procs.getD P pr0).edges.getD E ed0).chn.toNat []++[trim (valN m P s m.tree.length ((m.procs.getD P pr0).edges.getD E ed0).expr).1 (m.chans.getD ((m.procs.getD P pr0).edges.getD E ed0).chn.toNat ch0).width]),-1⟩:=by
  unfold qn val;simp only;rw [za (by omega),zb ha,za (by omega)]
 (conv=>whnf)
 refine qpc (fun _=>rfl) 300 (fun hg=>qpa m hM (qn m s P ((m.procs.getD P pr0).edges.getD E ed0)) hT P h5) (fun hg=>⟨fun _=>?_,fun _=>?_,fun _=>trivial,trivial⟩) (fun hg=>And.intro (by exact Le.cnd hg) (And.intro (Le.trans (by exact Le.cnd hg) ?_) (And.intro (by exact Le.cnd hg) trivial))) (by rfl) (by kernel_rfl) ?_
 ·exact qds
 ·refine ⟨⟨trivial,⟨rfl,rfl⟩,trivial⟩,⟨trivial,⟨rfl,rfl⟩,trivial⟩,⟨trivial,⟨rfl,rfl⟩,fun k hk=>?_⟩,trivial,trivial⟩
  show allP _ (if k=((m.procs.getD P pr0).edges.getD E ed0).chn.toNat then _ else _)
  by_cases hkc:k=((m.procs.getD P pr0).edges.getD E ed0).chn.toNat
  ·rw [zb hkc]
   exact ⟨⟨hcc,⟨(zb rfl).symm,(zb rfl).symm⟩,trivial⟩,trivial⟩
  ·rw [za hkc]
   exact ⟨⟨hk,⟨(za hkc).symm,(za hkc).symm⟩,trivial⟩,trivial⟩
 ·rw [hTe]
  exact Le.agg ⟨Le.slc (by simp) (fun j hj=>hA j),Le.refl _,Le.slcL (by simp) (fun j hj=>by
   rw [← qcl (fun c=>[ints c]) [] s.chans ((m.procs.getD P pr0).edges.getD E ed0).chn.toNat _ hcc j]
   show LeL (List.map _ (if j=((m.procs.getD P pr0).edges.getD E ed0).chn.toNat then _ else _)) _
   by_cases hjc:j=((m.procs.getD P pr0).edges.getD E ed0).chn.toNat
   ·rw [zb hjc,zb hjc]
    refine ⟨Le.slc (show (s.chans.getD ((m.procs.getD P pr0).edges.getD E ed0).chn.toNat []).length+1=_ by rw [zg,zq]) (fun q hq=>?_),trivial⟩
    have hq':q<(s.chans.getD ((m.procs.getD P pr0).edges.getD E ed0).chn.toNat []).length+1:=hq
    refine (congrFun (zb rfl) q).trans ?_
    exact qmj rfl hq'
   ·rw [za hjc,za hjc]
    refine ⟨Le.slc rfl (fun q hq=>congrFun (za hjc) q),trivial⟩),Le.refl _,trivial⟩
 (repeat' ((conv=>whnf);first|refine Ob.auto ?_|(apply zB <;> intro hb <;> (try simp [-zd] at hb) <;> try (exfalso;omega))|refine Ob.intro ?_ ?_|fail))
 ·refine ⟨⟨trivial,⟨rfl,rfl⟩,trivial⟩,⟨trivial,⟨rfl,rfl⟩,trivial⟩,⟨trivial,⟨rfl,rfl⟩,fun k hk=>?_⟩,trivial,trivial⟩
  show allP _ (if k=((m.procs.getD P pr0).edges.getD E ed0).chn.toNat then _ else _)
  by_cases hkc:k=((m.procs.getD P pr0).edges.getD E ed0).chn.toNat
  ·rw [zb hkc]
   exact ⟨⟨hcc,⟨(zb rfl).symm,(zb rfl).symm⟩,trivial⟩,trivial⟩
  ·rw [za hkc]
   exact ⟨⟨hk,⟨(za hkc).symm,(za hkc).symm⟩,trivial⟩,trivial⟩
 ·refine Le.agg ⟨?_,?_,?_,Le.of_eq (congrArg (AV.int _) (zb hb).symm),trivial⟩
  ·show Le _ (ints (qn m s P ((m.procs.getD P pr0).edges.getD E ed0)).at_)
   rw [hTe];exact Le.slc (by simp) (fun j hj=>hA j)
  ·show Le _ (ints (qn m s P ((m.procs.getD P pr0).edges.getD E ed0)).vars)
   rw [hTe];exact Le.refl _
  ·show Le _ (slcL (fun l=>[ints l]) [] 1 (qn m s P ((m.procs.getD P pr0).edges.getD E ed0)).chans)
   rw [hTe]
   exact Le.slcL (by simp) (fun j hj=>by
    rw [← qcl (fun c=>[ints c]) [] s.chans ((m.procs.getD P pr0).edges.getD E ed0).chn.toNat _ hcc j]
    show LeL (List.map _ (if j=((m.procs.getD P pr0).edges.getD E ed0).chn.toNat then _ else _)) _
    by_cases hjc:j=((m.procs.getD P pr0).edges.getD E ed0).chn.toNat
    ·rw [zb hjc,zb hjc]
     refine ⟨Le.slc (show (s.chans.getD ((m.procs.getD P pr0).edges.getD E ed0).chn.toNat []).length+1=_ by rw [zg,zq]) (fun q hq=>?_),trivial⟩
     have hq':q<(s.chans.getD ((m.procs.getD P pr0).edges.getD E ed0).chn.toNat []).length+1:=hq
     refine (congrFun (zb rfl) q).trans ?_
     exact qmj rfl hq'
    ·rw [za hjc,za hjc]
     refine ⟨Le.slc rfl (fun q hq=>congrFun (za hjc) q),trivial⟩)
 ·refine ⟨⟨trivial,⟨rfl,rfl⟩,trivial⟩,⟨trivial,⟨rfl,rfl⟩,trivial⟩,⟨trivial,⟨rfl,rfl⟩,fun k hk=>?_⟩,trivial,trivial⟩
  show allP _ (if k=((m.procs.getD P pr0).edges.getD E ed0).chn.toNat then _ else _)
  by_cases hkc:k=((m.procs.getD P pr0).edges.getD E ed0).chn.toNat
  ·rw [zb hkc]
   exact ⟨⟨hcc,⟨(zb rfl).symm,(zb rfl).symm⟩,trivial⟩,trivial⟩
  ·rw [za hkc]
   exact ⟨⟨hk,⟨(za hkc).symm,(za hkc).symm⟩,trivial⟩,trivial⟩
 ·refine Le.agg ⟨?_,?_,?_,Le.of_eq (congrArg (AV.int _) (za (fun h=>by have:=hb h.1;rw [h.2] at this;cases this)).symm),trivial⟩
  ·show Le _ (ints (qn m s P ((m.procs.getD P pr0).edges.getD E ed0)).at_)
   rw [hTe];exact Le.slc (by simp) (fun j hj=>hA j)
  ·show Le _ (ints (qn m s P ((m.procs.getD P pr0).edges.getD E ed0)).vars)
   rw [hTe];exact Le.refl _
  ·show Le _ (slcL (fun l=>[ints l]) [] 1 (qn m s P ((m.procs.getD P pr0).edges.getD E ed0)).chans)
   rw [hTe]
   exact Le.slcL (by simp) (fun j hj=>by
    rw [← qcl (fun c=>[ints c]) [] s.chans ((m.procs.getD P pr0).edges.getD E ed0).chn.toNat _ hcc j]
    show LeL (List.map _ (if j=((m.procs.getD P pr0).edges.getD E ed0).chn.toNat then _ else _)) _
    by_cases hjc:j=((m.procs.getD P pr0).edges.getD E ed0).chn.toNat
    ·rw [zb hjc,zb hjc]
     refine ⟨Le.slc (show (s.chans.getD ((m.procs.getD P pr0).edges.getD E ed0).chn.toNat []).length+1=_ by rw [zg,zq]) (fun q hq=>?_),trivial⟩
     have hq':q<(s.chans.getD ((m.procs.getD P pr0).edges.getD E ed0).chn.toNat []).length+1:=hq
     refine (congrFun (zb rfl) q).trans ?_
     exact qmj rfl hq'
    ·rw [za hjc,za hjc]
     refine ⟨Le.slc rfl (fun q hq=>congrFun (za hjc) q),trivial⟩)
theorem qxn (m:Md) (hM:ModOk m) (s:Stt) (v:Mv) (hf:qm m s=true) (h:je m s v=true):Con Tryz.prog 32 [m.av,s.av,v.av] (qu m s v).av:=by
 by_cases hk:v.kind=1
 ·exact juz m hM s v hf h hk
 ·have h':=h
  unfold je at h
  split at h
  ·rename_i h0
   rw [zf,zf] at h
   obtain ⟨ha,hb,_⟩:=h
   have h2:=zi ha
   have h3:=zi hb
   clear ha hb
   obtain ⟨k,p,e,c⟩:=v
   simp only at h0 h2 h3
   obtain ⟨P,rfl⟩:=xg h3.1
   obtain ⟨E,rfl⟩:=xg h3.2.2.1
   obtain ⟨h2,_⟩:=h2
   subst h0 h2
   have hst:qu m s ⟨0,P,E,0⟩=qbq m s P ((m.procs.getD P pr0).edges.getD E ed0):=rfl
   rw [hst]
   by_cases ha:((m.procs.getD P pr0).edges.getD E ed0).act=2
   ·exact jvc m hM s P E hf h' ha
   ·exact jva m hM s P E hf h' ha
  ·split at h
   ·rename_i h0
    rw [zf] at h
    obtain ⟨ha,_⟩:=h
    have h2:=zi ha
    clear ha
    obtain ⟨k,p,e,c⟩:=v
    simp only at h0 h2 hk
    obtain ⟨C,rfl⟩:=xg h2.2.2.2.1
    obtain rfl:k=2:=by omega
    obtain rfl:p=0:=h2.2.1
    obtain rfl:e=0:=h2.2.2.1
    exact jvb m hM s C hf h'
   ·cases h
set_option maxHeartbeats 2000000
theorem jgi (m:Md) (hm:MOk m):Con Tryz.prog 30 [m.av] (qt m).av:=by
 have hsz:=hm.sz
 refine zK {} 300 Tryz.func30 (fun c0 rdb=>?_)
 refine qcm 2 0 3 1 rfl rfl ?_
 ((conv=>whnf);refine qkh (fun _=>rfl) 300 1 [1,2,3] [0,1] (fun i:Nat=>[(4,iv i)]) (fun i=>[(2,.box 76 [.own 3 0 0 i,.nils,.nils,iv (-1)]),(3,.row [] 3 1 0 i (fun _=>[iv 0]))]) (fun i=>i≤m.procs.length) (fun i=>m.procs.length - i) (0) (by omega) qa qa (fun _=>rfl) (by kernel_rfl) ?_;(conv=>whnf))
 intro i hi
 (repeat' ((conv=>whnf);first|refine Ob.auto ?_|(apply zB <;> intro hb <;> (try simp [-zd] at hb) <;> try (exfalso;omega))))
 ·((conv=>whnf);refine ⟨i+1,by omega,⟨qa,qa⟩,⟨qa,qa⟩,?_⟩;(first|omega|(dsimp only;omega)|skip))
 obtain rfl:i=m.procs.length:=by omega
 clear hi hb
 refine qcm 2 1 3 1 rfl rfl ?_
 ((conv=>whnf);refine qkh (fun _=>rfl) 300 2 [1,2,3] [0,1,3] (fun i:Nat=>[(5,iv i)]) (fun i=>[(2,.box 76 [.own 3 0 0 m.procs.length,.own 4 0 0 i,.nils,iv (-1)]),(4,.row [] 3 1 0 i (fun i=>[iv (m.vars.getD i vr0).value]))]) (fun i=>i≤m.vars.length) (fun i=>m.vars.length - i) (0) (by omega) qa qa (fun _=>rfl) (by kernel_rfl) ?_;(conv=>whnf))
 intro i hi
 (repeat' ((conv=>whnf);first|refine Ob.auto ?_|(refine zN 300 ?_)|(apply zB <;> intro hb <;> (try simp [-zd] at hb) <;> try (exfalso;omega))))
 ·((conv=>whnf);refine ⟨i+1,by omega,⟨qa,qa⟩,⟨qa,qa⟩,?_⟩;(first|omega|(dsimp only;omega)|skip))
 obtain rfl:i=m.vars.length:=by omega
 clear hi hb
 refine qcm 2 2 28 1 rfl rfl ?_
 ((conv=>whnf);refine qkh (fun _=>rfl) 300 3 [1,2,3] [0,1,3,4] (fun i:Nat=>[(6,iv i)]) (fun i=>[(2,.box 76 [.own 3 0 0 m.procs.length,.own 4 0 0 m.vars.length,.own 5 0 0 i,iv (-1)]),(5,.row [] 28 1 0 i (fun i=>[.nils]))]) (fun i=>i≤m.chans.length) (fun i=>m.chans.length - i) (0) (by omega) qa qa (fun _=>rfl) (by kernel_rfl) ?_;(conv=>whnf))
 intro i hi
 (repeat' ((conv=>whnf);first|refine Ob.auto ?_|(apply zB <;> intro hb <;> (try simp [-zd] at hb) <;> try (exfalso;omega))))
 ·((conv=>whnf);refine ⟨i+1,by omega,⟨qa,qa⟩,⟨qa,qa⟩,?_⟩;(first|omega|(dsimp only;omega)|skip))
 obtain rfl:i=m.chans.length:=by omega
 (conv=>whnf)
 refine Le.agg ⟨Le.slc (by simp [qt]) (fun j hj=>?_),Le.slc (by simp [qt]) (fun j hj=>?_),Le.slcL (by simp [qt]) (fun j hj=>?_),Le.refl _,trivial⟩
 ·show [iv 0]=[iv ((qt m).at_.getD j 0)]
  rw [qt,qja _ _ _ _ hj]
 ·show [iv (m.vars.getD j vr0).value]=[iv ((qt m).vars.getD j 0)]
  rw [qt,qrj _ _ _ _ vr0 hj]
 ·show LeL [.nils] [ints ((qt m).chans.getD j [])]
  rw [qt,qja _ _ _ _ hj]
  exact ⟨Le.nils _ _,trivial⟩
set_option maxHeartbeats 4000000
theorem jgj {m:Md} (hM:ModOk m) (s:Stt):(qap m s).length≤1000000:=by
 have h1:=qxj m hM s m.procs.length (zk _)
 have h2:=qxi m s m.chans.length
 have hz:=hM.sz
 have e:qap m s=jz m s m.procs.length++(if s.holder=-1 then qde m s m.chans.length else []):=rfl
 rw [e,zg]
 split
 ·omega
 ·simp;omega
theorem jvd (v:Mv) (l:List Mv) (hl:l.length≤1000000):Con Tryz.prog 59 [v.av,qgc l] (.bool (decide (v∈l))):=by
 refine zK {} 300 Tryz.func59 (fun c0 rdb=>?_)
 ((conv=>whnf);refine qo (fun _=>rfl) 300 1 (fun i:Nat=>[(5,iv i)]) (fun _=>[]) (fun i=>i≤l.length∧∀ j,j<i→l.getD j {}≠v) (fun i=>l.length - i) (0) (⟨zx _,fun j hj=>absurd hj (zh j)⟩) qa qa (fun _=>rfl) (by kernel_rfl) ?_;(conv=>whnf))
 intro i hi
 (repeat' ((conv=>whnf);first|refine zO ?_|refine Ob.auto ?_|refine zD 300 ?_|(apply zB <;> intro hb <;> (try simp [-zd] at hb) <;> try (exfalso;omega))))
 ·refine Le.of_eq (congrArg AV.bool ?_)
  refine (zo ?_).symm
  rw [← juo hb]
  exact qe l i {} (by omega)
 ·((conv=>whnf);refine ⟨i+1,⟨by omega,qan hi.2 (fun e=>by rw [e] at hb;exact hb rfl rfl rfl rfl)⟩,⟨qa,qa⟩,⟨qa,qa⟩,?_⟩;(first|omega|(dsimp only;omega)|skip))
 ·refine Le.of_eq (congrArg AV.bool ?_)
  refine (xx fun h=>?_).symm
  obtain ⟨j,hj,rfl⟩:=List.mem_iff_getElem.1 h
  refine hi.2 j (by omega) ?_
  rw [zd,ze hj];rfl
theorem jgk {m:Md} {l:List Mv} {i:Nat} (h:nF m l=i):Le (.slc 4 (i+1) fun j=>(stN m l j).cells) (jfl (qii m l)):=by
 subst h
 refine Le.slc (by simp [qii]) (fun j hj=>?_)
 unfold encL qii
 rw [jbt _ _ _ _ hj]
theorem qxo {n:Nat} {f g h:Nat→List AV} (h1:∀ k,k<n→f k=h k) (h2:g 0=h n):∀ k,k<n+1→LeL (appF n f 1 g k) (h k):=fun k hk=>by
 unfold appF
 by_cases hl:k<n
 ·rw [zb hl,h1 k hl];exact LeL.refl _
 ·obtain rfl:k=n:=by omega
  rw [za hl,zb hk,xv,h2];exact LeL.refl _
theorem jve (m:Md) (hM:ModOk m) (h0:qm m (qt m)=true) (l:List Mv) (hl:l.length≤1000000):Con Tryz.prog 33 [m.av,qgc l] (jfl (qii m l)):=by
 refine zK {lit:=true} 300 Tryz.func33 (fun c0 rdb=>?_)
 (repeat' ((conv=>whnf);first|refine zC 300 (jgi m hM.ok) ?_|fail))
 ((conv=>whnf);refine qo (fun _=>rfl) 300 1 (fun i:Nat=>[(7,iv i),(6,.own 2 0 0 (i+1))]) (fun i=>[(1,.box 76 (stN m l i).cells),(2,.row [] 76 4 0 (i+1) (fun j=>(stN m l j).cells))]) (fun i=>i≤l.length∧∀ j,j<i→okN m l j=true) (fun i=>l.length - i) (0) (⟨zx _,fun j hj=>absurd hj (zh j)⟩) qa ⟨⟨rfl,Le.refl _,Le.refl _,Le.refl _,Le.refl _,trivial⟩,qaz (fun k hk=>match k,hk with|0,_=>rfl|k+1,hk=>absurd hk (by omega)),trivial⟩ (fun _=>rfl) (by kernel_rfl) ?_;(conv=>whnf))
 rintro i ⟨hi,hp⟩
 have hf:=qhf hM h0 hp
 have hmv:=jfy m hM (stN m l i) hf
 have hin:=jvd (l.getD i {}) (qap m (stN m l i)) (jgj hM _)
 rw [decide_eq_decide.2 mem_movesF] at hin
 have hde:decide (je m (stN m l i) (l.getD i {})=true)=okN m l i:=by unfold okN;cases je m (stN m l i) (l.getD i {}) <;> rfl
 rw [hde] at hin
 have hdo:=fun h:okN m l i=true=>qxn m hM (stN m l i) (l.getD i {}) hf h
 (repeat' ((conv=>whnf);first|refine Ob.auto ?_|(apply zB <;> intro hb <;> (try simp [-zd] at hb) <;> try (exfalso;omega))))
 ·(repeat' ((conv=>whnf);first|refine zA ?_|refine Ob.auto ?_|(refine CallY.con (hmv) (by rfl) leA ?_)|(refine CallY.con (hin) (by rfl) leA ?_)|(refine zQ 300 ?_)|(apply zB <;> intro hb <;> (try simp [-zd] at hb) <;> try (exfalso;omega))))
  ·exact jgk (qmi hi hp (.inr hb))
  ·(repeat' ((conv=>whnf);first|refine zA ?_|refine Ob.auto ?_|(refine CallY.con (hdo hb) (by rfl) leA ?_)|fail))
   ((conv=>whnf);refine ⟨i+1,⟨by omega,qan hp hb⟩,⟨qa,⟨⟨rfl,Le.refl _,Le.refl _,Le.refl _,Le.refl _,trivial⟩,⟨⟨rfl,rfl,rfl⟩,rfl,rfl,qxo (fun _ _=>rfl) rfl⟩,trivial⟩⟩,⟨qa,qa⟩,?_⟩;(first|omega|(dsimp only;omega)|skip))
 ·obtain rfl:i=l.length:=by omega
  exact jgk (qmi hi hp (.inl rfl))
end Go.Proofs.YtcfllgdfhfcicaaGreatDoor
end
section
namespace Go.St
open Go Go.Sx
theorem qxp {m:Md} {s s':Stt} {E:List Ev} {e:Ev} {c:Nat} {x:Int} (hW:Waits m s E) (hp:qck c e=true) (hl:s.chans.length=m.chans.length) (hc:c<m.chans.length) (hs:s'.chans=s.chans.set c (s.chans.getD c []++[x])):Waits m s' (E++[e]):=by
 intro k hk
 obtain ⟨w1,w2⟩:=hW k hk
 by_cases h:k=c
 ·subst h
  obtain ⟨e1,e2,e3⟩:=qov hp w1
  refine ⟨e2,?_⟩
  rw [e3,hs,qdm,zb ⟨rfl,by omega⟩,zg,zg,w2];rfl
 ·have hec:e.ch=c:=(zi hp).1
  obtain ⟨o1,o2,o3⟩:=qel (E:=E) (e:=e) (c:=(k:Int)) (by rw [hec];omega)
  refine ⟨by rw [o1,o2];exact w1,?_⟩
  rw [o3,w2,hs,qdm,za (fun h'=>h h'.1)]
theorem qxq {m:Md} {s s':Stt} {E:List Ev} {e:Ev} {c:Nat} (hW:Waits m s E) (hp:isTake c e=true) (hl:s.chans.length=m.chans.length) (hc:c<m.chans.length) (hq:0<(s.chans.getD c []).length) (hs:s'.chans=s.chans.set c ((s.chans.getD c []).drop 1)):Waits m s' (E++[e]):=by
 intro k hk
 obtain ⟨w1,w2⟩:=hW k hk
 by_cases h:k=c
 ·subst h
  obtain ⟨e1,e2,e3⟩:=qsh hp w1 (by omega)
  refine ⟨e2,?_⟩
  rw [e3,hs,qdm,zb ⟨rfl,by omega⟩,xf,xf,w2]
 ·have hec:e.ch=c:=(zi hp).1
  obtain ⟨o1,o2,o3⟩:=qel (E:=E) (e:=e) (c:=(k:Int)) (by rw [hec];omega)
  refine ⟨by rw [o1,o2];exact w1,?_⟩
  rw [o3,w2,hs,qdm,za (fun h'=>h h'.1)]
theorem jgl {m:Md} {s s':Stt} {E:List Ev} (hW:Waits m s E) (hs:s'.chans=s.chans):Waits m s' E:=fun k hk=>by
 rw [hs];exact hW k hk
theorem qsl {m:Md} {s:Stt} {p:Nat} {e:Ed} (h:canB m s p e=true) (h3:e.act=3):0<(s.chans.getD e.chn.toNat []).length:=by
 unfold canB qlen at h
 rw [za (by omega),zb h3,zf] at h
 have:=zi h.2
 omega
inductive MvC (m:Md) (s:Stt):Mv→Prop
 | lose (c:Nat) (hc:c<m.chans.length) (hq:0<(s.chans.getD c []).length):MvC m s ⟨1,0,0,c⟩
 | copy (c:Nat) (hc:c<m.chans.length) (hq:0<(s.chans.getD c []).length):MvC m s ⟨2,0,0,c⟩
 | edge (P e:Nat) (hP:P<m.procs.length) (he:e<(edgesOf m P).length) (h:canB m s P ((edgesOf m P).getD e ed0)=true):MvC m s ⟨0,P,e,0⟩
theorem qpe {m:Md} {s:Stt} {v:Mv} (h:je m s v=true):MvC m s v:=by
 obtain ⟨k,p,e,c⟩:=v
 unfold je at h
 simp only at h
 split at h
 ·rename_i hk
  rw [zf,zf] at h
  obtain ⟨ha,hb,h4⟩:=h
  have h2:=zi ha
  have h3:=zi hb
  clear ha hb
  obtain ⟨P,rfl⟩:=xg h3.1
  obtain ⟨E,rfl⟩:=xg h3.2.2.1
  obtain ⟨rfl,_⟩:=h2
  subst hk
  exact .edge P E (by omega) (by have:=h3.2.2.2;rw [zu] at this;omega) h4
 ·split at h
  ·rename_i hk
   rw [zf] at h
   obtain ⟨ha,h3⟩:=h
   have h2:=zi ha
   clear ha
   obtain ⟨_,rfl,rfl,h0,h1⟩:=h2
   obtain ⟨C,rfl⟩:=xg h0
   split at h3
   ·rename_i hk1
    subst hk1
    refine .lose C (by omega) ?_
    unfold qjm qlen at h3
    simp only [zf,xd,zu] at h3
    omega
   ·obtain rfl:k=2:=by omega
    refine .copy C (by omega) ?_
    unfold qig qlen at h3
    simp only [zf,xd,zu] at h3
    omega
  ·cases h
theorem qxr {m:Md} {s:Stt} {P e:Nat}:qu m s ⟨0,P,e,0⟩=qbq m s P ((edgesOf m P).getD e ed0):=rfl
theorem jgm {m:Md} (hM:ModOk m) {s:Stt} (hf:qm m s=true) {v:Mv} (h:je m s v=true) {E:List Ev} (hW:Waits m s E) (i:Nat):Waits m (qu m s v) (E++(evOf m s (qu m s v) i v E).toList):=by
 have hl:=((jg m s).1 hf).1.2.2.1
 cases qpe h with
 | lose c hc hq=>
  exact qxq (c:=c) (e:=⟨2,i,-1,c,jy s c,jo E c⟩) hW (zo ⟨rfl,.inr rfl⟩) hl hc hq rfl
 | copy c hc hq=>
  exact qxp (c:=c) (e:=⟨3,i,-1,c,jy s c,jo E c⟩) hW (zo ⟨rfl,.inr rfl⟩) hl hc rfl
 | edge P e hP he hcan=>
  have hed:=edOk hM hP he
  have hte:edOf m ⟨0,P,e,0⟩=(edgesOf m P).getD e ed0:=rfl
  rw [qxr]
  unfold evOf
  rw [za (by simp),za (by simp),hte]
  have hq:=qsl hcan
  generalize (edgesOf m P).getD e ed0=d at hed hq ⊢
  by_cases h2:d.act=2
  ·have hch:=hed.chn (.inl h2)
   obtain ⟨C,hC⟩:=xg hch.1
   rw [zb h2,hC]
   refine qxp (c:=C) (x:=trim (if d.expr<0 then 0 else (val m P s d.expr).1) (m.chans.getD C ch0).width) hW (zo ⟨rfl,.inl rfl⟩) hl (by omega) ?_
   unfold qbq qn
   simp only
   rw [za (by omega),zb h2,hC];rfl
  ·by_cases h3:d.act=3
   ·have hch:=hed.chn (.inr h3)
    obtain ⟨C,hC⟩:=xg hch.1
    have hq:=hq h3
    rw [za h2,zb h3,hC]
    rw [hC] at hq
    refine qxq (c:=C) hW (zo ⟨rfl,.inl rfl⟩) hl (by omega) hq ?_
    unfold qbq qn
    simp only
    rw [za (by omega),za h2,zb h3,hC];rfl
   ·rw [za h2,za h3]
    rw [show (Option.none:Option Ev).toList=[] from rfl,zac]
    refine jgl hW ?_
    unfold qbq qn
    simp only
    split
    ·rfl
    ·rfl
theorem jgn (m:Md):Waits m (qt m) []:=fun k hk=>by
 refine ⟨zk _,?_⟩
 unfold qt
 rw [qja _ _ _ _ hk];rfl
theorem jgo {m:Md} (hM:ModOk m) (h0:qm m (qt m)=true) {l:List Mv}:∀ {i:Nat},(∀ j,j<i→okN m l j=true)→Waits m (stN m l i) (evN m l i)
 | 0,_=>jgn m
 | i+1,h=>jgm hM (qhf hM h0 (i:=i) fun j hj=>h j (by omega)) (h i (by omega)) (jgo hM h0 (i:=i) fun j hj=>h j (by omega)) i
end Go.St
end
