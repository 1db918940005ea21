/- Some texts of the library, one behind the other. -/
import Derived.Test.YtcfllgdfhfcicaaGreatDoorQ30
import Derived.Test.YtcfllgdfhfcicaaGreatDoorQ29
import Derived.Test.YtcfllgdfhfcicaaGreatDoorQ2
set_option linter.unusedSimpArgs false
set_option linter.unusedVariables false
section
namespace Go.Proofs.YtcfllgdfhfcicaaGreatDoor
open List renaming getD_eq_getElem?_getD → zd
open Go Go.Sx Go.RowKit Go.St
set_option maxRecDepth 100000
set_option maxHeartbeats 4000000
theorem do_no (m:Md) (hM:ModOk m) (s:Stt) (hs:SSz s) (v:Mv) (h:doB m s v=false):Con Tryz.prog 88 [m.av,s.av,v.av] (.tup [.agg [.nils,.nils,.nils,iv 0],.bool false]):=by
 unfold doB at h
 by_cases hf:qm m s=true
 ·rw [hf,zbq] at h
  have hal:=qoy m hM s hf v
  have hft:=qij m s hs
  rw [h] at hal
  rw [hf] at hft
  refine zK {} 300 Tryz.func88 (fun c0 rdb=>?_)
  (repeat' ((conv=>whnf);first|refine Ob.auto ?_|refine zC 300 (hft) ?_|refine zG 300 (fun hg=>hal) ?_|(apply zB <;> intro hb <;> (try simp [-zd] at hb) <;> try (exfalso;omega))))
  exact Le.refl _
 ·have hft:=qij m s hs
  rw [Bool.not_eq_true] at hf
  rw [hf] at hft
  refine zK {} 300 Tryz.func88 (fun c0 rdb=>?_)
  (repeat' ((conv=>whnf);first|refine Ob.auto ?_|refine zC 300 (hft) ?_|refine zG 300 (fun hg=>(absurd hg (by decide):Con Tryz.prog 118 [m.av,s.av,v.av] (.bool false))) ?_|(apply zB <;> intro hb <;> (try simp [-zd] at hb) <;> try (exfalso;omega))))
  exact Le.refl _
theorem qpd {s:Stt} {c:Nat} (hc:c<s.chans.length) (j:Nat):LeL (if j=c then [AV.slc 1 ((s.chans.getD c []).length - 1) fun i=>encL (fun n=>[iv n]) 0 (s.chans.getD c []) (1+i)] else encL (fun c=>[ints c]) [] s.chans j) (encL (fun c=>[ints c]) [] (s.chans.set c ((s.chans.getD c []).drop 1)) j):=by
 rw [← qcl (fun c=>[ints c]) [] s.chans c _ hc j]
 by_cases hj:j=c
 ·rw [zb hj,zb hj]
  refine ⟨Le.slc (by simp) (fun q _=>?_),trivial⟩
  unfold encL
  rw [zd (l:=List.drop 1 _),xj,← zd]
 ·rw [za hj,za hj];exact LeL.refl _
theorem juu (m:Md) (hM:ModOk m) (s:Stt) (v:Mv) (hf:qm m s=true) (h:je m s v=true) (hk:v.kind=1):Con Tryz.prog 88 [m.av,s.av,v.av] (.tup [(qu m s v).av,.bool true]):=by
 have hs:=qcs hM hf
 have hal:=qoy m hM s hf v
 have hft:=qij m s hs
 rw [h] at hal
 rw [hf] at hft
 unfold je at h
 rw [za (by omega),zb (.inl hk),zb hk,zf] at h
 obtain ⟨h2,h3⟩:=h
 have h2:=zi h2
 have hcl:=((jg m s).1 hf).1.2.2.1
 have hq:0<(s.chans.getD v.chn.toNat []).length:=by
  unfold qjm qlen at h3
  simp only [zf,xd,zu] at h3
  omega
 have hst:qu m s v={ s with chans:=s.chans.set v.chn.toNat ((s.chans.getD v.chn.toNat []).drop 1),holder:=-1 }:=zb hk
 rw [hst]
 refine zK {} 300 Tryz.func88 (fun c0 rdb=>?_)
 (repeat' ((conv=>whnf);first|refine Ob.auto ?_|refine zC 300 (hft) ?_|refine zG 300 (fun hg=>hal) ?_|(apply zB <;> intro hb <;> (try simp [-zd] at hb) <;> try (exfalso;omega))))
 ((conv=>whnf);refine zT 300 [] (jfz s hs) qa ?_)
 (repeat' ((conv=>whnf);first|refine zO ?_|refine Ob.auto ?_|refine zD 300 ?_|(apply zB <;> intro hb <;> (try simp [-zd] at hb) <;> try (exfalso;omega))))
 exact Le.tup ⟨Le.agg ⟨Le.refl _,Le.refl _,Le.slcL (by simp) (fun j hj=>qpd (by omega) j),Le.refl _,trivial⟩,Le.refl _,trivial⟩
theorem jgf (m:Md) (s:Stt) (h:Int) (p:Nat) (e:Ed):canB m { s with holder:=h } p e=canB m s p e:=by
 unfold canB qlen
 simp only [jgd]
theorem jgg (m:Md) (s:Stt) (h:Int) (p:Nat) (e:Ed):qbq m { s with holder:=h } p e=qbq m s p e:=by
 unfold qbq qn
 simp only [jgd]
theorem juv (m:Md) (hM:ModOk m) (s:Stt) (P E:Nat) (hf:qm m s=true) (h:je m s ⟨0,P,E,0⟩=true) (ha:((edgesOf m P).getD E ed0).act≠2):Con Tryz.prog 88 [m.av,s.av,(⟨0,P,E,0⟩:Mv).av] (.tup [(qbq m s P ((edgesOf m P).getD E ed0)).av,.bool true]):=by
 have hs:=qcs hM hf
 have hal:=qoy m hM s hf ⟨0,P,E,0⟩
 have hft:=qij m s hs
 rw [h] at hal
 rw [hf] at hft
 unfold je at h
 rw [zb rfl,zf,zf] at h
 obtain ⟨h2,h3,h4⟩:=h
 have h3:=zi h3
 simp only at h3
 have h5:P<m.procs.length:=by omega
 have h6:E<(edgesOf m P).length:=by have:=h3.2.2.2;rw [zu] at this;omega
 have h6':E<(m.procs.getD P pr0).edges.length:=h6
 have hed:=edOk hM h5 h6
 have hf0:=qmh hf (-1) ⟨xi _,by omega⟩
 have hfo:=jus m hM { s with holder:=-1 } hf0 rfl P h5 ((edgesOf m P).getD E ed0) hed (by rw [jgf];exact h4) ha
 rw [jgg] at hfo
 refine zK {} 300 Tryz.func88 (fun c0 rdb=>?_)
 (repeat' ((conv=>whnf);first|refine Ob.auto ?_|refine zC 300 (hft) ?_|refine zG 300 (fun hg=>hal) ?_|(apply zB <;> intro hb <;> (try simp [-zd] at hb) <;> try (exfalso;omega))))
 ((conv=>whnf);refine zT 300 [] (jfz s hs) qa ?_)
 (repeat' ((conv=>whnf);first|refine Ob.auto ?_|(apply zB <;> intro hb <;> (try simp [-zd] at hb) <;> try (exfalso;omega))))
 ((conv=>whnf);refine zQ 300 ?_)
 (repeat' ((conv=>whnf);first|refine Ob.auto ?_|fail))
 ((conv=>whnf);refine CallY.trip [18,8,12,17] (hfo) (by kernel_rfl) leA qa (by exact qb rfl) (by exact qb rfl) ?_)
 (repeat' ((conv=>whnf);first|refine zA ?_|refine Ob.auto ?_|fail))
 exact Le.refl _
theorem juw (m:Md) (hM:ModOk m) (s:Stt) (P E:Nat) (hf:qm m s=true) (h:je m s ⟨0,P,E,0⟩=true) (ha:((edgesOf m P).getD E ed0).act=2):Con Tryz.prog 88 [m.av,s.av,(⟨0,P,E,0⟩:Mv).av] (.tup [(qbq m s P ((edgesOf m P).getD E ed0)).av,.bool true]):=by
 have hs:=qcs hM hf
 have hal:=qoy m hM s hf ⟨0,P,E,0⟩
 have hft:=qij m s hs
 rw [h] at hal
 rw [hf] at hft
 unfold je at h
 rw [zb rfl,zf,zf] at h
 obtain ⟨h2,h3,h4⟩:=h
 have h3:=zi h3
 simp only at h3
 have h5:P<m.procs.length:=by omega
 have h6:E<(edgesOf m P).length:=by have:=h3.2.2.2;rw [zu] at this;omega
 have h6':E<(m.procs.getD P pr0).edges.length:=h6
 have hed:=edOk hM h5 h6
 have hf0:=qmh hf (-1) ⟨xi _,by omega⟩
 have hfo:=jut m hM { s with holder:=-1 } hf0 rfl P h5 ((edgesOf m P).getD E ed0) hed (by rw [jgf];exact h4) ha
 rw [jgg] at hfo
 refine zK {} 300 Tryz.func88 (fun c0 rdb=>?_)
 (repeat' ((conv=>whnf);first|refine Ob.auto ?_|refine zC 300 (hft) ?_|refine zG 300 (fun hg=>hal) ?_|(apply zB <;> intro hb <;> (try simp [-zd] at hb) <;> try (exfalso;omega))))
 ((conv=>whnf);refine qcx (fun _=>rfl) 300 [] (jga s hs) (by kernel_rfl) leA qa (by exact qb rfl) (by exact qct ⟨fun _ _=>rfl,trivial⟩) (by kernel_rfl) ?_)
 (repeat' ((conv=>whnf);first|refine Ob.auto ?_|(apply zB <;> intro hb <;> (try simp [-zd] at hb) <;> try (exfalso;omega))))
 ((conv=>whnf);refine zQ 300 ?_)
 (repeat' ((conv=>whnf);first|refine Ob.auto ?_|fail))
 ((conv=>whnf);refine CallY.trip [24,8,12,17,23] (hfo) (by kernel_rfl) leA qa (by exact qct ⟨fun _ _=>rfl,trivial⟩) (by exact qb rfl) ?_)
 (repeat' ((conv=>whnf);first|refine zA ?_|refine Ob.auto ?_|fail))
 exact Le.refl _
theorem jux (m:Md) (hM:ModOk m) (s:Stt) (c:Nat) (hf:qm m s=true) (h:je m s ⟨2,0,0,c⟩=true):Con Tryz.prog 88 [m.av,s.av,(⟨2,0,0,c⟩:Mv).av] (.tup [(qu m s ⟨2,0,0,c⟩).av,.bool true]):=by
 have hs:=qcs hM hf
 have hal:=qoy m hM s hf ⟨2,0,0,c⟩
 have hft:=qij m s hs
 rw [h] at hal
 rw [hf] at hft
 unfold je at h
 rw [za (by simp),zb (.inr rfl),zf] at h
 obtain ⟨h2,h3⟩:=h
 have h2:=zi h2
 simp only at h2
 have hcl:=((jg m s).1 hf).1.2.2.1
 have hq:0<(s.chans.getD c []).length:=by
  unfold qig qlen at h3
  simp only [zu] at h3
  rw [za (by decide)] at h3
  simp only [zf,xd] at h3
  omega
 have hcc:c<s.chans.length:=by omega
 have hl:=hs.l _ (qe s.chans c [] hcc)
 refine zK {} 300 Tryz.func88 (fun c0 rdb=>?_)
 (repeat' ((conv=>whnf);first|refine Ob.auto ?_|refine zC 300 (hft) ?_|refine zG 300 (fun hg=>hal) ?_|(apply zB <;> intro hb <;> (try simp [-zd] at hb) <;> try (exfalso;omega))))
 ((conv=>whnf);refine qcx (fun _=>rfl) 300 [] (jga s hs) (by kernel_rfl) leA qa (by exact qb rfl) (by exact qct ⟨fun _ _=>rfl,trivial⟩) (by kernel_rfl) ?_)
 (repeat' ((conv=>whnf);first|refine zO ?_|refine Ob.auto ?_|refine zD 300 ?_|(apply zB <;> intro hb <;> (try simp [-zd] at hb) <;> try (exfalso;omega))|refine Ob.intro ?_ ?_|fail))
 ·refine ⟨hcc,⟨rfl,rfl⟩,show (s.chans.getD c []).length+1≤_ by omega,?_⟩
  refine xc (xb _ (show (s.chans.getD c []).length+1≤4000001 by omega)) ?_
  dsimp only;decide +kernel
 ·exact ⟨⟨⟨rfl,rfl⟩,hcc⟩,hcc,by simp [upd],by simp [upd]⟩
 ·refine ⟨⟨⟨trivial,⟨rfl,rfl⟩,trivial⟩,⟨trivial,⟨rfl,rfl⟩,trivial⟩,⟨trivial,⟨rfl,rfl⟩,fun k hk=>?_⟩,trivial,trivial⟩,trivial,trivial⟩
  show allP _ (if k=c then _ else _)
  by_cases hkc:k=c
  ·rw [zb hkc]
   exact ⟨⟨hcc,⟨(zb rfl).symm,(zb rfl).symm⟩,trivial⟩,trivial⟩
  ·rw [za hkc]
   exact ⟨⟨hk,⟨(za hkc).symm,(za hkc).symm⟩,trivial⟩,trivial⟩
 have hst:qu m s ⟨2,0,0,c⟩={ s with chans:=s.chans.set c (s.chans.getD c []++[(s.chans.getD c []).getD 0 0]),holder:=-1 }:=(za (by simp)).trans (zb rfl)
 rw [hst]
 refine Le.tup ⟨Le.agg ⟨Le.refl _,Le.refl _,Le.slcL (by simp) (fun j hj=>?_),Le.refl _,trivial⟩,Le.refl _,trivial⟩
 rw [← qcl (fun c=>[ints c]) [] s.chans c _ hcc j]
 show LeL (List.map _ (if j=c then _ else _)) _
 by_cases hjc:j=c
 ·rw [zb hjc,zb hjc]
  refine ⟨Le.slc (show (s.chans.getD c []).length+1=_ by rw [zg,zq]) (fun q hq=>?_),trivial⟩
  have hq':q<(s.chans.getD c []).length+1:=hq
  refine (congrFun (zb rfl) q).trans ?_
  exact qmj rfl hq'
 ·rw [za hjc,za hjc]
  refine ⟨Le.slc rfl (fun q hq=>congrFun (za hjc) q),trivial⟩
theorem juy (m:Md) (hM:ModOk m) (s:Stt) (v:Mv) (hf:qm m s=true) (h:je m s v=true):Con Tryz.prog 88 [m.av,s.av,v.av] (.tup [(qu m s v).av,.bool true]):=by
 by_cases hk:v.kind=1
 ·exact juu m hM s v hf h hk
 ·have h':=h
  unfold je at h
  split at h
  ·rename_i h0
   rw [zf,zf] at h
   obtain ⟨ha,hb,_⟩:=h
   have h2:=zi ha
   have h3:=zi hb
   clear ha hb
   obtain ⟨k,p,e,c⟩:=v
   simp only at h0 h2 h3
   obtain ⟨P,rfl⟩:=xg h3.1
   obtain ⟨E,rfl⟩:=xg h3.2.2.1
   obtain ⟨h2,_⟩:=h2
   subst h0 h2
   have hst:qu m s ⟨0,P,E,0⟩=qbq m s P ((edgesOf m P).getD E ed0):=rfl
   rw [hst]
   by_cases ha:((edgesOf m P).getD E ed0).act=2
   ·exact juw m hM s P E hf h' ha
   ·exact juv m hM s P E hf h' ha
  ·split at h
   ·rename_i h0
    rw [zf] at h
    obtain ⟨ha,_⟩:=h
    have h2:=zi ha
    clear ha
    obtain ⟨k,p,e,c⟩:=v
    simp only at h0 h2 hk
    obtain ⟨C,rfl⟩:=xg h2.2.2.2.1
    obtain rfl:k=2:=by omega
    obtain rfl:p=0:=h2.2.1
    obtain rfl:e=0:=h2.2.2.1
    exact jux m hM s C hf h'
   ·cases h
theorem jgh (m:Md) (hM:ModOk m) (s:Stt) (hs:SSz s) (v:Mv):Con Tryz.prog 88 [m.av,s.av,v.av] (.tup [(qsd m s v).av,.bool (doB m s v)]):=by
 unfold qsd
 by_cases h:doB m s v=true
 ·rw [zb h,h]
  unfold doB at h
  rw [zf] at h
  exact juy m hM s v h.1 h.2
 ·rw [za h]
  rw [Bool.not_eq_true] at h
  rw [h]
  exact (do_no m hM s hs v h).res (Le.tup ⟨Le.agg ⟨Le.nils _ _,Le.nils _ _,Le.nils _ _,Le.refl _,trivial⟩,Le.refl _,trivial⟩)
theorem juz (m:Md) (hM:ModOk m) (s:Stt) (v:Mv) (hf:qm m s=true) (h:je m s v=true) (hk:v.kind=1):Con Tryz.prog 32 [m.av,s.av,v.av] (qu m s v).av:=by
 have hs:=qcs hM hf
 unfold je at h
 rw [za (by omega),zb (.inl hk),zb hk,zf] at h
 obtain ⟨h2,h3⟩:=h
 have h2:=zi h2
 have hcl:=((jg m s).1 hf).1.2.2.1
 have hq:0<(s.chans.getD v.chn.toNat []).length:=by
  unfold qjm qlen at h3
  simp only [zf,xd,zu] at h3
  omega
 have hst:qu m s v={ s with chans:=s.chans.set v.chn.toNat ((s.chans.getD v.chn.toNat []).drop 1),holder:=-1 }:=zb hk
 rw [hst]
 refine zK {} 300 Tryz.func32 (fun c0 rdb=>?_)
 ((conv=>whnf);refine zT 300 [] (jgb s hs) qa ?_)
 (repeat' ((conv=>whnf);first|refine zO ?_|refine Ob.auto ?_|refine zD 300 ?_|(apply zB <;> intro hb <;> (try simp [-zd] at hb) <;> try (exfalso;omega))))
 exact Le.agg ⟨Le.refl _,Le.refl _,Le.slcL (by simp) (fun j hj=>qpd (by omega) j),Le.of_eq (congrArg (AV.int _) h2.1),trivial⟩
theorem jva (m:Md) (hM:ModOk m) (s:Stt) (P E:Nat) (hf:qm m s=true) (h:je m s ⟨0,P,E,0⟩=true) (ha:((m.procs.getD P pr0).edges.getD E ed0).act≠2):Con Tryz.prog 32 [m.av,s.av,(⟨0,P,E,0⟩:Mv).av] (qbq m s P ((m.procs.getD P pr0).edges.getD E ed0)).av:=by
 have hs:=qcs hM hf
 unfold je at h
 rw [zb rfl,zf,zf] at h
 obtain ⟨h2,h3,h4⟩:=h
 have h3:=zi h3
 simp only at h3
 have h5:P<m.procs.length:=by omega
 have h6:E<(m.procs.getD P pr0).edges.length:=by have:=h3.2.2.2;rw [zu] at this;exact Int.ofNat_lt.1 this
 have hed:EdOk m.tree.length m.vars.length m.chans.length (m.procs.getD P pr0).places ((m.procs.getD P pr0).edges.getD E ed0):=edOk hM h5 h6
 have h4:canB m s P ((m.procs.getD P pr0).edges.getD E ed0)=true:=h4
 have hso:=qow hM.ok hf
 have hat:s.at_.length=m.procs.length:=((jg m s).1 hf).1.1
 have hex:=hed.ex
 have hnx:=hed.nex
 have hvr:=hed.var
 have hch:=hed.chn
 have hac:=hed.act
 have hxl:0≤((m.procs.getD P pr0).edges.getD E ed0).expr→((m.procs.getD P pr0).edges.getD E ed0).expr<m.tree.length:=fun h0=>by
  by_cases h:((m.procs.getD P pr0).edges.getD E ed0).act=1∨((m.procs.getD P pr0).edges.getD E ed0).act=2∨((m.procs.getD P pr0).edges.getD E ed0).act=4∨((m.procs.getD P pr0).edges.getD E ed0).act=5
  ·exact (hex h).2
  ·have:=hnx (by omega);omega
 have hvl:=((jg m s).1 hf).1.2.1
 have hcl:=((jg m s).1 hf).1.2.2.1
 have hq:=jge h4
 have hto:=hed.to
 have hT:=qor hM hf (p:=P) hto (qos h4)
 have hA:∀ j,(if j=P then [iv ((m.procs.getD P pr0).edges.getD E ed0).to] else encL (fun n=>[iv n]) 0 s.at_ j)=encL (fun n=>[iv n]) 0 (s.at_.set P ((m.procs.getD P pr0).edges.getD E ed0).to) j:=qcl (fun n=>[iv n]) 0 s.at_ P ((m.procs.getD P pr0).edges.getD E ed0).to (by omega)
 refine zK {} 300 Tryz.func32 (fun c0 rdb=>?_)
 ((conv=>whnf);refine zT 300 [] (jgb s hs) qa ?_)
 (repeat' ((conv=>whnf);first|refine zO ?_|refine Ob.auto ?_|refine zC 300 (qxf m hM.ok P s hso m.tree.length ((m.procs.getD P pr0).edges.getD E ed0).expr (by omega) (hxl (by omega)) (Nat.sub_le _ _)) ?_|refine zD 300 ?_|(apply zB <;> intro hb <;> (try simp [-zd] at hb) <;> try (exfalso;omega))))
 ·((conv=>whnf);refine zQ 300 ?_)
  (repeat' ((conv=>whnf);first|refine zA ?_|refine Ob.auto ?_|(refine CallY.con (qji (valN m P s m.tree.length ((m.procs.getD P pr0).edges.getD E ed0).expr).1 (m.vars.getD ((m.procs.getD P pr0).edges.getD E ed0).var.toNat vr0).width) (by rfl) leA ?_)|fail))
  have hTe:qn m s P ((m.procs.getD P pr0).edges.getD E ed0)=⟨s.at_.set P ((m.procs.getD P pr0).edges.getD E ed0).to,s.vars.set ((m.procs.getD P pr0).edges.getD E ed0).var.toNat (trim (valN m P s m.tree.length ((m.procs.getD P pr0).edges.getD E ed0).expr).1 (m.vars.getD ((m.procs.getD P pr0).edges.getD E ed0).var.toNat vr0).width),s.chans,-1⟩:=by
   unfold qn val;simp only;rw [zb (by assumption),za (by omega)]
  (conv=>whnf)
  refine qpc (fun _=>rfl) 300 (fun hg=>qpa m hM (qn m s P ((m.procs.getD P pr0).edges.getD E ed0)) hT P h5) (fun hg=>⟨fun _=>?_,fun _=>?_,fun _=>trivial,trivial⟩) (fun hg=>And.intro (by exact Le.cnd hg) (And.intro (Le.trans (by exact Le.cnd hg) ?_) (And.intro (by exact Le.cnd hg) trivial))) (by rfl) (by kernel_rfl) ?_
  ·exact qds
  ·exact qds
  ·rw [hTe];exact Le.agg ⟨Le.slc (by simp) (fun j hj=>hA j),Le.slc (by simp) (fun j hj=>qcl (fun n=>[iv n]) 0 s.vars ((m.procs.getD P pr0).edges.getD E ed0).var.toNat _ (by omega) j),Le.refl _,Le.refl _,trivial⟩
  (repeat' ((conv=>whnf);first|refine Ob.auto ?_|(apply zB <;> intro hb <;> (try simp [-zd] at hb) <;> try (exfalso;omega))))
  ·refine Le.agg ⟨?_,?_,?_,Le.of_eq (congrArg (AV.int _) (zb hb).symm),trivial⟩
   ·show Le _ (ints (qn m s P ((m.procs.getD P pr0).edges.getD E ed0)).at_)
    rw [hTe];exact Le.slc (by simp) (fun j hj=>hA j)
   ·show Le _ (ints (qn m s P ((m.procs.getD P pr0).edges.getD E ed0)).vars)
    rw [hTe];exact Le.slc (by simp) (fun j hj=>qcl (fun n=>[iv n]) 0 s.vars ((m.procs.getD P pr0).edges.getD E ed0).var.toNat _ (by omega) j)
   ·show Le _ (slcL (fun l=>[ints l]) [] 1 (qn m s P ((m.procs.getD P pr0).edges.getD E ed0)).chans)
    rw [hTe];exact Le.refl _
  ·refine Le.agg ⟨?_,?_,?_,Le.of_eq (congrArg (AV.int _) (za (fun h=>?_)).symm),trivial⟩
   ·show Le _ (ints (qn m s P ((m.procs.getD P pr0).edges.getD E ed0)).at_)
    rw [hTe];exact Le.slc (by simp) (fun j hj=>hA j)
   ·show Le _ (ints (qn m s P ((m.procs.getD P pr0).edges.getD E ed0)).vars)
    rw [hTe];exact Le.slc (by simp) (fun j hj=>qcl (fun n=>[iv n]) 0 s.vars ((m.procs.getD P pr0).edges.getD E ed0).var.toNat _ (by omega) j)
   ·show Le _ (slcL (fun l=>[ints l]) [] 1 (qn m s P ((m.procs.getD P pr0).edges.getD E ed0)).chans)
    rw [hTe];exact Le.refl _
   ·have:=hb h.1;rw [h.2] at this;cases this
 ·have h0:True:=trivial
  have hTe:qn m s P ((m.procs.getD P pr0).edges.getD E ed0)=⟨s.at_.set P ((m.procs.getD P pr0).edges.getD E ed0).to,s.vars,s.chans,-1⟩:=by
   unfold qn;simp only;rw [za (by assumption),za (by assumption),za (by assumption)]
  (conv=>whnf)
  refine qpc (fun _=>rfl) 300 (fun hg=>qpa m hM (qn m s P ((m.procs.getD P pr0).edges.getD E ed0)) hT P h5) (fun hg=>⟨fun _=>?_,fun _=>?_,fun _=>trivial,trivial⟩) (fun hg=>And.intro (by exact Le.cnd hg) (And.intro (Le.trans (by exact Le.cnd hg) ?_) (And.intro (by exact Le.cnd hg) trivial))) (by rfl) (by kernel_rfl) ?_
  ·exact qds
  ·exact qds
  ·rw [hTe];exact Le.agg ⟨Le.slc (by simp) (fun j hj=>hA j),Le.refl _,Le.refl _,Le.refl _,trivial⟩
  (repeat' ((conv=>whnf);first|refine Ob.auto ?_|(apply zB <;> intro hb <;> (try simp [-zd] at hb) <;> try (exfalso;omega))))
  ·refine Le.agg ⟨?_,?_,?_,Le.of_eq (congrArg (AV.int _) (zb hb).symm),trivial⟩
   ·show Le _ (ints (qn m s P ((m.procs.getD P pr0).edges.getD E ed0)).at_)
    rw [hTe];exact Le.slc (by simp) (fun j hj=>hA j)
   ·show Le _ (ints (qn m s P ((m.procs.getD P pr0).edges.getD E ed0)).vars)
    rw [hTe];exact Le.refl _
   ·show Le _ (slcL (fun l=>[ints l]) [] 1 (qn m s P ((m.procs.getD P pr0).edges.getD E ed0)).chans)
    rw [hTe];exact Le.refl _
  ·refine Le.agg ⟨?_,?_,?_,Le.of_eq (congrArg (AV.int _) (za (fun h=>?_)).symm),trivial⟩
   ·show Le _ (ints (qn m s P ((m.procs.getD P pr0).edges.getD E ed0)).at_)
    rw [hTe];exact Le.slc (by simp) (fun j hj=>hA j)
   ·show Le _ (ints (qn m s P ((m.procs.getD P pr0).edges.getD E ed0)).vars)
    rw [hTe];exact Le.refl _
   ·show Le _ (slcL (fun l=>[ints l]) [] 1 (qn m s P ((m.procs.getD P pr0).edges.getD E ed0)).chans)
    rw [hTe];exact Le.refl _
   ·have:=hb h.1;rw [h.2] at this;cases this
 ·((conv=>whnf);refine zQ 300 ?_)
  have hq3:=hq (by assumption)
  have hq4:(1:Int)≤((s.chans.getD ((m.procs.getD P pr0).edges.getD E ed0).chn.toNat []).length:Int):=by omega
  (repeat' ((conv=>whnf);first|refine zA ?_|refine zO ?_|refine Ob.auto ?_|(refine CallY.con (qji ((s.chans.getD ((m.procs.getD P pr0).edges.getD E ed0).chn.toNat []).getD 0 0) (m.vars.getD ((m.procs.getD P pr0).edges.getD E ed0).var.toNat vr0).width) (by rfl) leA ?_)|refine zD 300 ?_|fail))
  have hTe:qn m s P ((m.procs.getD P pr0).edges.getD E ed0)=⟨s.at_.set P ((m.procs.getD P pr0).edges.getD E ed0).to,s.vars.set ((m.procs.getD P pr0).edges.getD E ed0).var.toNat (trim ((s.chans.getD ((m.procs.getD P pr0).edges.getD E ed0).chn.toNat []).getD 0 0) (m.vars.getD ((m.procs.getD P pr0).edges.getD E ed0).var.toNat vr0).width),s.chans.set ((m.procs.getD P pr0).edges.getD E ed0).chn.toNat ((s.chans.getD ((m.procs.getD P pr0).edges.getD E ed0).chn.toNat []).drop 1),-1⟩:=by
   unfold qn;simp only;rw [za (by assumption),za (by assumption),zb (by assumption)]
  (conv=>whnf)
  refine qpc (fun _=>rfl) 300 (fun hg=>qpa m hM (qn m s P ((m.procs.getD P pr0).edges.getD E ed0)) hT P h5) (fun hg=>⟨fun _=>?_,fun _=>?_,fun _=>trivial,trivial⟩) (fun hg=>And.intro (by exact Le.cnd hg) (And.intro (Le.trans (by exact Le.cnd hg) ?_) (And.intro (by exact Le.cnd hg) trivial))) (by rfl) (by kernel_rfl) ?_
  ·exact qds
  ·exact qds
  ·rw [hTe];exact Le.agg ⟨Le.slc (by simp) (fun j hj=>hA j),Le.slc (by simp) (fun j hj=>qcl (fun n=>[iv n]) 0 s.vars ((m.procs.getD P pr0).edges.getD E ed0).var.toNat _ (by omega) j),Le.slcL (by simp) (fun j hj=>qpd (c:=((m.procs.getD P pr0).edges.getD E ed0).chn.toNat) (by omega) j),Le.refl _,trivial⟩
  (repeat' ((conv=>whnf);first|refine Ob.auto ?_|(apply zB <;> intro hb <;> (try simp [-zd] at hb) <;> try (exfalso;omega))))
  ·refine Le.agg ⟨?_,?_,?_,Le.of_eq (congrArg (AV.int _) (zb hb).symm),trivial⟩
   ·show Le _ (ints (qn m s P ((m.procs.getD P pr0).edges.getD E ed0)).at_)
    rw [hTe];exact Le.slc (by simp) (fun j hj=>hA j)
   ·show Le _ (ints (qn m s P ((m.procs.getD P pr0).edges.getD E ed0)).vars)
    rw [hTe];exact Le.slc (by simp) (fun j hj=>qcl (fun n=>[iv n]) 0 s.vars ((m.procs.getD P pr0).edges.getD E ed0).var.toNat _ (by omega) j)
   ·show Le _ (slcL (fun l=>[ints l]) [] 1 (qn m s P ((m.procs.getD P pr0).edges.getD E ed0)).chans)
    rw [hTe];exact Le.slcL (by simp) (fun j hj=>qpd (c:=((m.procs.getD P pr0).edges.getD E ed0).chn.toNat) (by omega) j)
  ·refine Le.agg ⟨?_,?_,?_,Le.of_eq (congrArg (AV.int _) (za (fun h=>?_)).symm),trivial⟩
   ·show Le _ (ints (qn m s P ((m.procs.getD P pr0).edges.getD E ed0)).at_)
    rw [hTe];exact Le.slc (by simp) (fun j hj=>hA j)
   ·show Le _ (ints (qn m s P ((m.procs.getD P pr0).edges.getD E ed0)).vars)
    rw [hTe];exact Le.slc (by simp) (fun j hj=>qcl (fun n=>[iv n]) 0 s.vars ((m.procs.getD P pr0).edges.getD E ed0).var.toNat _ (by omega) j)
   ·show Le _ (slcL (fun l=>[ints l]) [] 1 (qn m s P ((m.procs.getD P pr0).edges.getD E ed0)).chans)
    rw [hTe];exact Le.slcL (by simp) (fun j hj=>qpd (c:=((m.procs.getD P pr0).edges.getD E ed0).chn.toNat) (by omega) j)
   ·have:=hb h.1;rw [h.2] at this;cases this
 ·have h0:True:=trivial
  have hTe:qn m s P ((m.procs.getD P pr0).edges.getD E ed0)=⟨s.at_.set P ((m.procs.getD P pr0).edges.getD E ed0).to,s.vars,s.chans,-1⟩:=by
   unfold qn;simp only;rw [za (by assumption),za (by assumption),za (by assumption)]
  (conv=>whnf)
  refine qpc (fun _=>rfl) 300 (fun hg=>qpa m hM (qn m s P ((m.procs.getD P pr0).edges.getD E ed0)) hT P h5) (fun hg=>⟨fun _=>?_,fun _=>?_,fun _=>trivial,trivial⟩) (fun hg=>And.intro (by exact Le.cnd hg) (And.intro (Le.trans (by exact Le.cnd hg) ?_) (And.intro (by exact Le.cnd hg) trivial))) (by rfl) (by kernel_rfl) ?_
  ·exact qds
  ·exact qds
  ·rw [hTe];exact Le.agg ⟨Le.slc (by simp) (fun j hj=>hA j),Le.refl _,Le.refl _,Le.refl _,trivial⟩
  (repeat' ((conv=>whnf);first|refine Ob.auto ?_|(apply zB <;> intro hb <;> (try simp [-zd] at hb) <;> try (exfalso;omega))))
  ·refine Le.agg ⟨?_,?_,?_,Le.of_eq (congrArg (AV.int _) (zb hb).symm),trivial⟩
   ·show Le _ (ints (qn m s P ((m.procs.getD P pr0).edges.getD E ed0)).at_)
    rw [hTe];exact Le.slc (by simp) (fun j hj=>hA j)
   ·show Le _ (ints (qn m s P ((m.procs.getD P pr0).edges.getD E ed0)).vars)
    rw [hTe];exact Le.refl _
   ·show Le _ (slcL (fun l=>[ints l]) [] 1 (qn m s P ((m.procs.getD P pr0).edges.getD E ed0)).chans)
    rw [hTe];exact Le.refl _
  ·refine Le.agg ⟨?_,?_,?_,Le.of_eq (congrArg (AV.int _) (za (fun h=>?_)).symm),trivial⟩
   ·show Le _ (ints (qn m s P ((m.procs.getD P pr0).edges.getD E ed0)).at_)
    rw [hTe];exact Le.slc (by simp) (fun j hj=>hA j)
   ·show Le _ (ints (qn m s P ((m.procs.getD P pr0).edges.getD E ed0)).vars)
    rw [hTe];exact Le.refl _
   ·show Le _ (slcL (fun l=>[ints l]) [] 1 (qn m s P ((m.procs.getD P pr0).edges.getD E ed0)).chans)
    rw [hTe];exact Le.refl _
   ·have:=hb h.1;rw [h.2] at this;cases this
end Go.Proofs.YtcfllgdfhfcicaaGreatDoor
end
