/- Contracts: what a move does, by the document's answer. -/
import Derived.Test.YtcfllgdfhfcicaaGreatDoorQ29
import Derived.Test.YtcfllgdfhfcicaaGreatDoorQ30
import Derived.Test.YtcfllgdfhfcicaaGreatDoorQ31
import Derived.Test.YtcfllgdfhfcicaaGreatDoorQ2
set_option linter.unusedSimpArgs false
set_option linter.unusedVariables false
namespace Go.Proofs.YtcfllgdfhfcicaaGreatDoor
open List renaming getD_eq_getElem?_getD → zd
open Go Go.Sx Go.RowKit Go.St
set_option maxRecDepth 100000
set_option maxHeartbeats 4000000
theorem jvc (m:Md) (hM:ModOk m) (s:Stt) (v:Mv) (hf:ql m s=true) (h:jc m s v=true) (hk:v.kind=1):Con Tryz.prog 32 [m.av,s.av,v.av] (qu m s v).av:=by
 have hs:=qck hM hf
 unfold jc at h
 rw [za (by omega),zb (.inl hk),zb hk,zf] at h
 obtain ⟨h2,h3⟩:=h
 have h2:=zi h2
 have hcl:=((jb m s).1 hf).1.2.2.1
 have hq:0<(s.chans.getD v.chn.toNat []).length:=by
  unfold qjn qlen at h3
  simp only [zf,xe,zu] at h3
  omega
 have hst:qu m s v={ s with chans:=s.chans.set v.chn.toNat ((s.chans.getD v.chn.toNat []).drop 1),holder:=-1 }:=zb hk
 rw [hst]
 refine zK {} 300 Tryz.func32 (fun c0 rdb=>?_)
 ((conv=>whnf);refine zT 300 [] (jfz s hs) qa ?_)
 (repeat' ((conv=>whnf);first|refine zO ?_|refine Ob.auto ?_|refine zD 300 ?_|(apply zB <;> intro hb <;> (try simp [-zd] at hb) <;> try (exfalso;omega))))
 exact Le.agg ⟨Le.refl _,Le.refl _,Le.slcL (by simp) (fun j hj=>qpf (by omega) j),Le.of_eq (congrArg (AV.int _) h2.1),trivial⟩
theorem jvd (m:Md) (hM:ModOk m) (s:Stt) (P E:Nat) (hf:ql m s=true) (h:jc m s ⟨0,P,E,0⟩=true) (ha:((m.procs.getD P pr0).edges.getD E ed0).act≠2):Con Tryz.prog 32 [m.av,s.av,(⟨0,P,E,0⟩:Mv).av] (qbq m s P ((m.procs.getD P pr0).edges.getD E ed0)).av:=by
 have hs:=qck hM hf
 unfold jc at h
 rw [zb rfl,zf,zf] at h
 obtain ⟨h2,h3,h4⟩:=h
 have h3:=zi h3
 simp only at h3
 have h5:P<m.procs.length:=by omega
 have h6:E<(m.procs.getD P pr0).edges.length:=by have:=h3.2.2.2;rw [zu] at this;exact Int.ofNat_lt.1 this
 have hed:EdOk m.tree.length m.vars.length m.chans.length (m.procs.getD P pr0).places ((m.procs.getD P pr0).edges.getD E ed0):=edOk hM h5 h6
 have h4:canB m s P ((m.procs.getD P pr0).edges.getD E ed0)=true:=h4
 have hso:=qoy hM.ok hf
 have hat:s.at_.length=m.procs.length:=((jb m s).1 hf).1.1
 have hex:=hed.ex
 have hnx:=hed.nex
 have hvr:=hed.var
 have hch:=hed.chn
 have hac:=hed.act
 have hxl:0≤((m.procs.getD P pr0).edges.getD E ed0).expr→((m.procs.getD P pr0).edges.getD E ed0).expr<m.tree.length:=fun h0=>by
  by_cases h:((m.procs.getD P pr0).edges.getD E ed0).act=1∨((m.procs.getD P pr0).edges.getD E ed0).act=2∨((m.procs.getD P pr0).edges.getD E ed0).act=4∨((m.procs.getD P pr0).edges.getD E ed0).act=5
  ·exact (hex h).2
  ·have:=hnx (by omega);omega
 have hvl:=((jb m s).1 hf).1.2.1
 have hcl:=((jb m s).1 hf).1.2.2.1
 have hq:=jgc h4
 have hto:=hed.to
 have hT:=qot hM hf (p:=P) hto (qou h4)
 have hA:∀ j,(if j=P then [iv ((m.procs.getD P pr0).edges.getD E ed0).to] else encL (fun n=>[iv n]) 0 s.at_ j)=encL (fun n=>[iv n]) 0 (s.at_.set P ((m.procs.getD P pr0).edges.getD E ed0).to) j:=qcm (fun n=>[iv n]) 0 s.at_ P ((m.procs.getD P pr0).edges.getD E ed0).to (by omega)
 refine zK {} 300 Tryz.func32 (fun c0 rdb=>?_)
 ((conv=>whnf);refine zT 300 [] (jfz s hs) qa ?_)
 (repeat' ((conv=>whnf);first|refine zO ?_|refine Ob.auto ?_|refine zC 300 (qxj m hM.ok P s hso m.tree.length ((m.procs.getD P pr0).edges.getD E ed0).expr (by omega) (hxl (by omega)) (Nat.sub_le _ _)) ?_|refine zD 300 ?_|(apply zB <;> intro hb <;> (try simp [-zd] at hb) <;> try (exfalso;omega))))
 ·((conv=>whnf);refine zQ 300 ?_)
  (repeat' ((conv=>whnf);first|refine zA ?_|refine Ob.auto ?_|(refine CallY.con (qjj (valN m P s m.tree.length ((m.procs.getD P pr0).edges.getD E ed0).expr).1 (m.vars.getD ((m.procs.getD P pr0).edges.getD E ed0).var.toNat vr0).width) (by rfl) leA ?_)|fail))
  have hTe:qo m s P ((m.procs.getD P pr0).edges.getD E ed0)=⟨s.at_.set P ((m.procs.getD P pr0).edges.getD E ed0).to,s.vars.set ((m.procs.getD P pr0).edges.getD E ed0).var.toNat (trim (valN m P s m.tree.length ((m.procs.getD P pr0).edges.getD E ed0).expr).1 (m.vars.getD ((m.procs.getD P pr0).edges.getD E ed0).var.toNat vr0).width),s.chans,-1⟩:=by
   unfold qo val;simp only;rw [zb (by assumption),za (by omega)]
  (conv=>whnf)
  refine qpe (fun _=>rfl) 300 (fun hg=>qpc m hM (qo m s P ((m.procs.getD P pr0).edges.getD E ed0)) hT P h5) (fun hg=>⟨fun _=>?_,fun _=>?_,fun _=>trivial,trivial⟩) (fun hg=>And.intro (by exact Le.cnd hg) (And.intro (Le.trans (by exact Le.cnd hg) ?_) (And.intro (by exact Le.cnd hg) trivial))) (by rfl) (by kernel_rfl) ?_
  ·exact qds
  ·exact qds
  ·rw [hTe];exact Le.agg ⟨Le.slc (by simp) (fun j hj=>hA j),Le.slc (by simp) (fun j hj=>qcm (fun n=>[iv n]) 0 s.vars ((m.procs.getD P pr0).edges.getD E ed0).var.toNat _ (by omega) j),Le.refl _,Le.refl _,trivial⟩
  (repeat' ((conv=>whnf);first|refine Ob.auto ?_|(apply zB <;> intro hb <;> (try simp [-zd] at hb) <;> try (exfalso;omega))))
  ·refine Le.agg ⟨?_,?_,?_,Le.of_eq (congrArg (AV.int _) (zb hb).symm),trivial⟩
   ·show Le _ (ints (qo m s P ((m.procs.getD P pr0).edges.getD E ed0)).at_)
    rw [hTe];exact Le.slc (by simp) (fun j hj=>hA j)
   ·show Le _ (ints (qo m s P ((m.procs.getD P pr0).edges.getD E ed0)).vars)
    rw [hTe];exact Le.slc (by simp) (fun j hj=>qcm (fun n=>[iv n]) 0 s.vars ((m.procs.getD P pr0).edges.getD E ed0).var.toNat _ (by omega) j)
   ·show Le _ (slcL (fun l=>[ints l]) [] 1 (qo m s P ((m.procs.getD P pr0).edges.getD E ed0)).chans)
    rw [hTe];exact Le.refl _
  ·refine Le.agg ⟨?_,?_,?_,Le.of_eq (congrArg (AV.int _) (za (fun h=>?_)).symm),trivial⟩
   ·show Le _ (ints (qo m s P ((m.procs.getD P pr0).edges.getD E ed0)).at_)
    rw [hTe];exact Le.slc (by simp) (fun j hj=>hA j)
   ·show Le _ (ints (qo m s P ((m.procs.getD P pr0).edges.getD E ed0)).vars)
    rw [hTe];exact Le.slc (by simp) (fun j hj=>qcm (fun n=>[iv n]) 0 s.vars ((m.procs.getD P pr0).edges.getD E ed0).var.toNat _ (by omega) j)
   ·show Le _ (slcL (fun l=>[ints l]) [] 1 (qo m s P ((m.procs.getD P pr0).edges.getD E ed0)).chans)
    rw [hTe];exact Le.refl _
   ·have:=hb h.1;rw [h.2] at this;cases this
 ·have h0:True:=trivial
  have hTe:qo m s P ((m.procs.getD P pr0).edges.getD E ed0)=⟨s.at_.set P ((m.procs.getD P pr0).edges.getD E ed0).to,s.vars,s.chans,-1⟩:=by
   unfold qo;simp only;rw [za (by assumption),za (by assumption),za (by assumption)]
  (conv=>whnf)
  refine qpe (fun _=>rfl) 300 (fun hg=>qpc m hM (qo m s P ((m.procs.getD P pr0).edges.getD E ed0)) hT P h5) (fun hg=>⟨fun _=>?_,fun _=>?_,fun _=>trivial,trivial⟩) (fun hg=>And.intro (by exact Le.cnd hg) (And.intro (Le.trans (by exact Le.cnd hg) ?_) (And.intro (by exact Le.cnd hg) trivial))) (by rfl) (by kernel_rfl) ?_
  ·exact qds
  ·exact qds
  ·rw [hTe];exact Le.agg ⟨Le.slc (by simp) (fun j hj=>hA j),Le.refl _,Le.refl _,Le.refl _,trivial⟩
  (repeat' ((conv=>whnf);first|refine Ob.auto ?_|(apply zB <;> intro hb <;> (try simp [-zd] at hb) <;> try (exfalso;omega))))
  ·refine Le.agg ⟨?_,?_,?_,Le.of_eq (congrArg (AV.int _) (zb hb).symm),trivial⟩
   ·show Le _ (ints (qo m s P ((m.procs.getD P pr0).edges.getD E ed0)).at_)
    rw [hTe];exact Le.slc (by simp) (fun j hj=>hA j)
   ·show Le _ (ints (qo m s P ((m.procs.getD P pr0).edges.getD E ed0)).vars)
    rw [hTe];exact Le.refl _
   ·show Le _ (slcL (fun l=>[ints l]) [] 1 (qo m s P ((m.procs.getD P pr0).edges.getD E ed0)).chans)
    rw [hTe];exact Le.refl _
  ·refine Le.agg ⟨?_,?_,?_,Le.of_eq (congrArg (AV.int _) (za (fun h=>?_)).symm),trivial⟩
   ·show Le _ (ints (qo m s P ((m.procs.getD P pr0).edges.getD E ed0)).at_)
    rw [hTe];exact Le.slc (by simp) (fun j hj=>hA j)
   ·show Le _ (ints (qo m s P ((m.procs.getD P pr0).edges.getD E ed0)).vars)
    rw [hTe];exact Le.refl _
   ·show Le _ (slcL (fun l=>[ints l]) [] 1 (qo m s P ((m.procs.getD P pr0).edges.getD E ed0)).chans)
    rw [hTe];exact Le.refl _
   ·have:=hb h.1;rw [h.2] at this;cases this
 ·((conv=>whnf);refine zQ 300 ?_)
  have hq3:=hq (by assumption)
  have hq4:(1:Int)≤((s.chans.getD ((m.procs.getD P pr0).edges.getD E ed0).chn.toNat []).length:Int):=by omega
  (repeat' ((conv=>whnf);first|refine zA ?_|refine zO ?_|refine Ob.auto ?_|(refine CallY.con (qjj ((s.chans.getD ((m.procs.getD P pr0).edges.getD E ed0).chn.toNat []).getD 0 0) (m.vars.getD ((m.procs.getD P pr0).edges.getD E ed0).var.toNat vr0).width) (by rfl) leA ?_)|refine zD 300 ?_|fail))
  have hTe:qo m s P ((m.procs.getD P pr0).edges.getD E ed0)=⟨s.at_.set P ((m.procs.getD P pr0).edges.getD E ed0).to,s.vars.set ((m.procs.getD P pr0).edges.getD E ed0).var.toNat (trim ((s.chans.getD ((m.procs.getD P pr0).edges.getD E ed0).chn.toNat []).getD 0 0) (m.vars.getD ((m.procs.getD P pr0).edges.getD E ed0).var.toNat vr0).width),s.chans.set ((m.procs.getD P pr0).edges.getD E ed0).chn.toNat ((s.chans.getD ((m.procs.getD P pr0).edges.getD E ed0).chn.toNat []).drop 1),-1⟩:=by
   unfold qo;simp only;rw [za (by assumption),za (by assumption),zb (by assumption)]
  (conv=>whnf)
  refine qpe (fun _=>rfl) 300 (fun hg=>qpc m hM (qo m s P ((m.procs.getD P pr0).edges.getD E ed0)) hT P h5) (fun hg=>⟨fun _=>?_,fun _=>?_,fun _=>trivial,trivial⟩) (fun hg=>And.intro (by exact Le.cnd hg) (And.intro (Le.trans (by exact Le.cnd hg) ?_) (And.intro (by exact Le.cnd hg) trivial))) (by rfl) (by kernel_rfl) ?_
  ·exact qds
  ·exact qds
  ·rw [hTe];exact Le.agg ⟨Le.slc (by simp) (fun j hj=>hA j),Le.slc (by simp) (fun j hj=>qcm (fun n=>[iv n]) 0 s.vars ((m.procs.getD P pr0).edges.getD E ed0).var.toNat _ (by omega) j),Le.slcL (by simp) (fun j hj=>qpf (c:=((m.procs.getD P pr0).edges.getD E ed0).chn.toNat) (by omega) j),Le.refl _,trivial⟩
  (repeat' ((conv=>whnf);first|refine Ob.auto ?_|(apply zB <;> intro hb <;> (try simp [-zd] at hb) <;> try (exfalso;omega))))
  ·refine Le.agg ⟨?_,?_,?_,Le.of_eq (congrArg (AV.int _) (zb hb).symm),trivial⟩
   ·show Le _ (ints (qo m s P ((m.procs.getD P pr0).edges.getD E ed0)).at_)
    rw [hTe];exact Le.slc (by simp) (fun j hj=>hA j)
   ·show Le _ (ints (qo m s P ((m.procs.getD P pr0).edges.getD E ed0)).vars)
    rw [hTe];exact Le.slc (by simp) (fun j hj=>qcm (fun n=>[iv n]) 0 s.vars ((m.procs.getD P pr0).edges.getD E ed0).var.toNat _ (by omega) j)
   ·show Le _ (slcL (fun l=>[ints l]) [] 1 (qo m s P ((m.procs.getD P pr0).edges.getD E ed0)).chans)
    rw [hTe];exact Le.slcL (by simp) (fun j hj=>qpf (c:=((m.procs.getD P pr0).edges.getD E ed0).chn.toNat) (by omega) j)
  ·refine Le.agg ⟨?_,?_,?_,Le.of_eq (congrArg (AV.int _) (za (fun h=>?_)).symm),trivial⟩
   ·show Le _ (ints (qo m s P ((m.procs.getD P pr0).edges.getD E ed0)).at_)
    rw [hTe];exact Le.slc (by simp) (fun j hj=>hA j)
   ·show Le _ (ints (qo m s P ((m.procs.getD P pr0).edges.getD E ed0)).vars)
    rw [hTe];exact Le.slc (by simp) (fun j hj=>qcm (fun n=>[iv n]) 0 s.vars ((m.procs.getD P pr0).edges.getD E ed0).var.toNat _ (by omega) j)
   ·show Le _ (slcL (fun l=>[ints l]) [] 1 (qo m s P ((m.procs.getD P pr0).edges.getD E ed0)).chans)
    rw [hTe];exact Le.slcL (by simp) (fun j hj=>qpf (c:=((m.procs.getD P pr0).edges.getD E ed0).chn.toNat) (by omega) j)
   ·have:=hb h.1;rw [h.2] at this;cases this
 ·have h0:True:=trivial
  have hTe:qo m s P ((m.procs.getD P pr0).edges.getD E ed0)=⟨s.at_.set P ((m.procs.getD P pr0).edges.getD E ed0).to,s.vars,s.chans,-1⟩:=by
   unfold qo;simp only;rw [za (by assumption),za (by assumption),za (by assumption)]
  (conv=>whnf)
  refine qpe (fun _=>rfl) 300 (fun hg=>qpc m hM (qo m s P ((m.procs.getD P pr0).edges.getD E ed0)) hT P h5) (fun hg=>⟨fun _=>?_,fun _=>?_,fun _=>trivial,trivial⟩) (fun hg=>And.intro (by exact Le.cnd hg) (And.intro (Le.trans (by exact Le.cnd hg) ?_) (And.intro (by exact Le.cnd hg) trivial))) (by rfl) (by kernel_rfl) ?_
  ·exact qds
  ·exact qds
  ·rw [hTe];exact Le.agg ⟨Le.slc (by simp) (fun j hj=>hA j),Le.refl _,Le.refl _,Le.refl _,trivial⟩
  (repeat' ((conv=>whnf);first|refine Ob.auto ?_|(apply zB <;> intro hb <;> (try simp [-zd] at hb) <;> try (exfalso;omega))))
  ·refine Le.agg ⟨?_,?_,?_,Le.of_eq (congrArg (AV.int _) (zb hb).symm),trivial⟩
   ·show Le _ (ints (qo m s P ((m.procs.getD P pr0).edges.getD E ed0)).at_)
    rw [hTe];exact Le.slc (by simp) (fun j hj=>hA j)
   ·show Le _ (ints (qo m s P ((m.procs.getD P pr0).edges.getD E ed0)).vars)
    rw [hTe];exact Le.refl _
   ·show Le _ (slcL (fun l=>[ints l]) [] 1 (qo m s P ((m.procs.getD P pr0).edges.getD E ed0)).chans)
    rw [hTe];exact Le.refl _
  ·refine Le.agg ⟨?_,?_,?_,Le.of_eq (congrArg (AV.int _) (za (fun h=>?_)).symm),trivial⟩
   ·show Le _ (ints (qo m s P ((m.procs.getD P pr0).edges.getD E ed0)).at_)
    rw [hTe];exact Le.slc (by simp) (fun j hj=>hA j)
   ·show Le _ (ints (qo m s P ((m.procs.getD P pr0).edges.getD E ed0)).vars)
    rw [hTe];exact Le.refl _
   ·show Le _ (slcL (fun l=>[ints l]) [] 1 (qo m s P ((m.procs.getD P pr0).edges.getD E ed0)).chans)
    rw [hTe];exact Le.refl _
   ·have:=hb h.1;rw [h.2] at this;cases this
end Go.Proofs.YtcfllgdfhfcicaaGreatDoor
