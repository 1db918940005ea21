/- Some texts of the library, one behind the other. -/
import Derived.Test.YtikahnkkfkoglaaGreatDoorY216
import Derived.Test.YtikahnkkfkoglaaGreatDoorY214
import Derived.Test.YtikahnkkfkoglaaGreatDoorY22
set_option linter.unusedSimpArgs false
set_option linter.unusedVariables false
section
namespace Go.Proofs.YtikahnkkfkoglaaGreatDoor
open List renaming getD_eq_getElem?_getD → zd
open Go Go.Sx Go.RowKit Go.St
set_option maxRecDepth 100000
set_option maxHeartbeats 4000000
theorem qpr {s:Stt} {c:Nat} (hc:c<s.chans.length) (j:Nat):LeL (if j=c then [AV.slc 1 ((s.chans.getD c []).length - 1) fun i=>encL (fun n=>[iv n]) 0 (s.chans.getD c []) (1+i)] else encL (fun c=>[ints c]) [] s.chans j) (encL (fun c=>[ints c]) [] (s.chans.set c ((s.chans.getD c []).drop 1)) j):=by
 rw [← qcj (fun c=>[ints c]) [] s.chans c _ hc j]
 by_cases hj:j=c
 ·rw [zb hj,zb hj]
  refine ⟨Le.slc (by simp) (fun q _=>?_),trivial⟩
  unfold encL
  rw [zd (l:=List.drop 1 _),xe,← zd]
 ·rw [za hj,za hj];exact LeL.refl _
theorem jrv (m:Md) (hM:ModOk m) (s:Stt) (v:Mv) (hf:fitsB m s=true) (h:qah m s v=true) (hk:v.kind=1):Con Tryz.prog 49 [m.av,s.av,v.av] (.tup [(jg m s v).av,.bool true]):=by
 have hs:=qco hM hf
 have hal:=qtc m hM s hf v
 have hft:=qag m s hs
 rw [h] at hal
 rw [hf] at hft
 unfold qah at h
 rw [za (by omega),zb (.inl hk),zb hk,zf] at h
 obtain ⟨h2,h3⟩:=h
 have h2:=zm h2
 have hcl:=((jn m s).1 hf).1.2.2.1
 have hq:0<(s.chans.getD v.chn.toNat []).length:=by
  unfold qkw qlen at h3
  simp only [zf,xd,zr] at h3
  omega
 have hst:jg m s v={ s with chans:=s.chans.set v.chn.toNat ((s.chans.getD v.chn.toNat []).drop 1),holder:=-1 }:=zb hk
 rw [hst]
 refine zK {} 300 Tryz.func49 (fun c0 rdb=>?_)
 (repeat' ((conv=>whnf);first|refine Ob.auto ?_|refine zC 300 (hft) ?_|refine zG 300 (fun hg=>hal) ?_|(apply zB <;> intro hb <;> (try simp [-zd] at hb) <;> try (exfalso;omega))))
 ((conv=>whnf);refine zT 300 [] (jej s hs) qa ?_)
 (repeat' ((conv=>whnf);first|refine zO ?_|refine Ob.auto ?_|refine zD 300 ?_|(apply zB <;> intro hb <;> (try simp [-zd] at hb) <;> try (exfalso;omega))))
 exact Le.tup ⟨Le.agg ⟨Le.refl _,Le.refl _,Le.slcL (by simp) (fun j hj=>qpr (by omega) j),Le.refl _,trivial⟩,Le.refl _,trivial⟩
theorem jep (m:Md) (s:Stt) (h:Int) (p:Nat) (e:Ed):canB m { s with holder:=h } p e=canB m s p e:=by
 unfold canB qlen
 simp only [jen]
theorem jeq (m:Md) (s:Stt) (h:Int) (p:Nat) (e:Ed):qeq m { s with holder:=h } p e=qeq m s p e:=by
 unfold qeq qt
 simp only [jen]
theorem jrw (m:Md) (hM:ModOk m) (s:Stt) (P E:Nat) (hf:fitsB m s=true) (h:qah m s ⟨0,P,E,0⟩=true) (ha:((qo m P).getD E ed0).act≠2):Con Tryz.prog 49 [m.av,s.av,(⟨0,P,E,0⟩:Mv).av] (.tup [(qeq m s P ((qo m P).getD E ed0)).av,.bool true]):=by
 have hs:=qco hM hf
 have hal:=qtc m hM s hf ⟨0,P,E,0⟩
 have hft:=qag m s hs
 rw [h] at hal
 rw [hf] at hft
 unfold qah at h
 rw [zb rfl,zf,zf] at h
 obtain ⟨h2,h3,h4⟩:=h
 have h3:=zm h3
 simp only at h3
 have h5:P<m.procs.length:=by omega
 have h6:E<(qo m P).length:=by have:=h3.2.2.2;rw [zr] at this;omega
 have h6':E<(m.procs.getD P pr0).edges.length:=h6
 have hed:=edOk hM h5 h6
 have hf0:=qmk hf (-1) ⟨xb _,by omega⟩
 have hfo:=jrt m hM { s with holder:=-1 } hf0 rfl P h5 ((qo m P).getD E ed0) hed (by rw [jep];exact h4) ha
 rw [jeq] at hfo
 refine zK {} 300 Tryz.func49 (fun c0 rdb=>?_)
 (repeat' ((conv=>whnf);first|refine Ob.auto ?_|refine zC 300 (hft) ?_|refine zG 300 (fun hg=>hal) ?_|(apply zB <;> intro hb <;> (try simp [-zd] at hb) <;> try (exfalso;omega))))
 ((conv=>whnf);refine zT 300 [] (jej s hs) qa ?_)
 (repeat' ((conv=>whnf);first|refine Ob.auto ?_|(apply zB <;> intro hb <;> (try simp [-zd] at hb) <;> try (exfalso;omega))))
 ((conv=>whnf);refine zQ 300 ?_)
 (repeat' ((conv=>whnf);first|refine Ob.auto ?_|fail))
 ((conv=>whnf);refine CallY.trip [18,8,12,17] (hfo) (by kernel_rfl) leA qa (by exact qb rfl) (by exact qb rfl) ?_)
 (repeat' ((conv=>whnf);first|refine zA ?_|refine Ob.auto ?_|fail))
 exact Le.refl _
theorem jrx (m:Md) (hM:ModOk m) (s:Stt) (P E:Nat) (hf:fitsB m s=true) (h:qah m s ⟨0,P,E,0⟩=true) (ha:((qo m P).getD E ed0).act=2):Con Tryz.prog 49 [m.av,s.av,(⟨0,P,E,0⟩:Mv).av] (.tup [(qeq m s P ((qo m P).getD E ed0)).av,.bool true]):=by
 have hs:=qco hM hf
 have hal:=qtc m hM s hf ⟨0,P,E,0⟩
 have hft:=qag m s hs
 rw [h] at hal
 rw [hf] at hft
 unfold qah at h
 rw [zb rfl,zf,zf] at h
 obtain ⟨h2,h3,h4⟩:=h
 have h3:=zm h3
 simp only at h3
 have h5:P<m.procs.length:=by omega
 have h6:E<(qo m P).length:=by have:=h3.2.2.2;rw [zr] at this;omega
 have h6':E<(m.procs.getD P pr0).edges.length:=h6
 have hed:=edOk hM h5 h6
 have hf0:=qmk hf (-1) ⟨xb _,by omega⟩
 have hfo:=jru m hM { s with holder:=-1 } hf0 rfl P h5 ((qo m P).getD E ed0) hed (by rw [jep];exact h4) ha
 rw [jeq] at hfo
 refine zK {} 300 Tryz.func49 (fun c0 rdb=>?_)
 (repeat' ((conv=>whnf);first|refine Ob.auto ?_|refine zC 300 (hft) ?_|refine zG 300 (fun hg=>hal) ?_|(apply zB <;> intro hb <;> (try simp [-zd] at hb) <;> try (exfalso;omega))))
 ((conv=>whnf);refine qgq (fun _=>rfl) 300 [] (jek s hs) (by kernel_rfl) leA qa (by exact qb rfl) (by exact qmh ⟨fun _ _=>rfl,trivial⟩) (by kernel_rfl) ?_)
 (repeat' ((conv=>whnf);first|refine Ob.auto ?_|(apply zB <;> intro hb <;> (try simp [-zd] at hb) <;> try (exfalso;omega))))
 ((conv=>whnf);refine zQ 300 ?_)
 (repeat' ((conv=>whnf);first|refine Ob.auto ?_|fail))
 ((conv=>whnf);refine CallY.trip [24,8,12,17,23] (hfo) (by kernel_rfl) leA qa (by exact qmh ⟨fun _ _=>rfl,trivial⟩) (by exact qb rfl) ?_)
 (repeat' ((conv=>whnf);first|refine zA ?_|refine Ob.auto ?_|fail))
 exact Le.refl _
theorem jry (m:Md) (hM:ModOk m) (s:Stt) (c:Nat) (hf:fitsB m s=true) (h:qah m s ⟨2,0,0,c⟩=true):Con Tryz.prog 49 [m.av,s.av,(⟨2,0,0,c⟩:Mv).av] (.tup [(jg m s ⟨2,0,0,c⟩).av,.bool true]):=by
 have hs:=qco hM hf
 have hal:=qtc m hM s hf ⟨2,0,0,c⟩
 have hft:=qag m s hs
 rw [h] at hal
 rw [hf] at hft
 unfold qah at h
 rw [za (by simp),zb (.inr rfl),zf] at h
 obtain ⟨h2,h3⟩:=h
 have h2:=zm h2
 simp only at h2
 have hcl:=((jn m s).1 hf).1.2.2.1
 have hq:0<(s.chans.getD c []).length:=by
  unfold qjg qlen at h3
  simp only [zr] at h3
  rw [za (by decide)] at h3
  simp only [zf,xd] at h3
  omega
 have hcc:c<s.chans.length:=by omega
 have hl:=hs.l _ (qk s.chans c [] hcc)
 refine zK {} 300 Tryz.func49 (fun c0 rdb=>?_)
 (repeat' ((conv=>whnf);first|refine Ob.auto ?_|refine zC 300 (hft) ?_|refine zG 300 (fun hg=>hal) ?_|(apply zB <;> intro hb <;> (try simp [-zd] at hb) <;> try (exfalso;omega))))
 ((conv=>whnf);refine qgq (fun _=>rfl) 300 [] (jek s hs) (by kernel_rfl) leA qa (by exact qb rfl) (by exact qmh ⟨fun _ _=>rfl,trivial⟩) (by kernel_rfl) ?_)
 (repeat' ((conv=>whnf);first|refine zO ?_|refine Ob.auto ?_|refine zD 300 ?_|(apply zB <;> intro hb <;> (try simp [-zd] at hb) <;> try (exfalso;omega))|refine Ob.intro ?_ ?_|fail))
 ·refine ⟨hcc,⟨rfl,rfl⟩,show (s.chans.getD c []).length+1≤_ by omega,?_⟩
  refine xa (zu _ (show (s.chans.getD c []).length+1≤4000001 by omega)) ?_
  dsimp only;decide +kernel
 ·exact ⟨⟨⟨rfl,rfl⟩,hcc⟩,hcc,by simp [upd],by simp [upd]⟩
 ·refine ⟨⟨⟨trivial,⟨rfl,rfl⟩,trivial⟩,⟨trivial,⟨rfl,rfl⟩,trivial⟩,⟨trivial,⟨rfl,rfl⟩,fun k hk=>?_⟩,trivial,trivial⟩,trivial,trivial⟩
  show allP _ (if k=c then _ else _)
  by_cases hkc:k=c
  ·rw [zb hkc]
   exact ⟨⟨hcc,⟨(zb rfl).symm,(zb rfl).symm⟩,trivial⟩,trivial⟩
  ·rw [za hkc]
   exact ⟨⟨hk,⟨(za hkc).symm,(za hkc).symm⟩,trivial⟩,trivial⟩
 have hst:jg m s ⟨2,0,0,c⟩={ s with chans:=s.chans.set c (s.chans.getD c []++[(s.chans.getD c []).getD 0 0]),holder:=-1 }:=(za (by simp)).trans (zb rfl)
 rw [hst]
 refine Le.tup ⟨Le.agg ⟨Le.refl _,Le.refl _,Le.slcL (by simp) (fun j hj=>?_),Le.refl _,trivial⟩,Le.refl _,trivial⟩
 rw [← qcj (fun c=>[ints c]) [] s.chans c _ hcc j]
 show LeL (List.map _ (if j=c then _ else _)) _
 by_cases hjc:j=c
 ·rw [zb hjc,zb hjc]
  refine ⟨Le.slc (show (s.chans.getD c []).length+1=_ by rw [zg,zz]) (fun q hq=>?_),trivial⟩
  have hq':q<(s.chans.getD c []).length+1:=hq
  refine (congrFun (zb rfl) q).trans ?_
  exact qmq rfl hq'
 ·rw [za hjc,za hjc]
  refine ⟨Le.slc rfl (fun q hq=>congrFun (za hjc) q),trivial⟩
theorem jrz (m:Md) (hM:ModOk m) (s:Stt) (v:Mv) (hf:fitsB m s=true) (h:qah m s v=true):Con Tryz.prog 49 [m.av,s.av,v.av] (.tup [(jg m s v).av,.bool true]):=by
 by_cases hk:v.kind=1
 ·exact jrv m hM s v hf h hk
 ·have h':=h
  unfold qah at h
  split at h
  ·rename_i h0
   rw [zf,zf] at h
   obtain ⟨ha,hb,_⟩:=h
   have h2:=zm ha
   have h3:=zm hb
   clear ha hb
   obtain ⟨k,p,e,c⟩:=v
   simp only at h0 h2 h3
   obtain ⟨P,rfl⟩:=zaf h3.1
   obtain ⟨E,rfl⟩:=zaf h3.2.2.1
   obtain ⟨h2,_⟩:=h2
   subst h0 h2
   have hst:jg m s ⟨0,P,E,0⟩=qeq m s P ((qo m P).getD E ed0):=rfl
   rw [hst]
   by_cases ha:((qo m P).getD E ed0).act=2
   ·exact jrx m hM s P E hf h' ha
   ·exact jrw m hM s P E hf h' ha
  ·split at h
   ·rename_i h0
    rw [zf] at h
    obtain ⟨ha,_⟩:=h
    have h2:=zm ha
    clear ha
    obtain ⟨k,p,e,c⟩:=v
    simp only at h0 h2 hk
    obtain ⟨C,rfl⟩:=zaf h2.2.2.2.1
    obtain rfl:k=2:=by omega
    obtain rfl:p=0:=h2.2.1
    obtain rfl:e=0:=h2.2.2.1
    exact jry m hM s C hf h'
   ·cases h
theorem jsa (m:Md) (hM:ModOk m) (s:Stt) (v:Mv) (hf:fitsB m s=true) (h:qah m s v=true) (hk:v.kind=1):Con Tryz.prog 12 [m.av,s.av,v.av] (jg m s v).av:=by
 have hs:=qco hM hf
 unfold qah at h
 rw [za (by omega),zb (.inl hk),zb hk,zf] at h
 obtain ⟨h2,h3⟩:=h
 have h2:=zm h2
 have hcl:=((jn m s).1 hf).1.2.2.1
 have hq:0<(s.chans.getD v.chn.toNat []).length:=by
  unfold qkw qlen at h3
  simp only [zf,xd,zr] at h3
  omega
 have hst:jg m s v={ s with chans:=s.chans.set v.chn.toNat ((s.chans.getD v.chn.toNat []).drop 1),holder:=-1 }:=zb hk
 rw [hst]
 refine zK {} 300 Tryz.func12 (fun c0 rdb=>?_)
 ((conv=>whnf);refine zT 300 [] (jel s hs) qa ?_)
 (repeat' ((conv=>whnf);first|refine zO ?_|refine Ob.auto ?_|refine zD 300 ?_|(apply zB <;> intro hb <;> (try simp [-zd] at hb) <;> try (exfalso;omega))))
 exact Le.agg ⟨Le.refl _,Le.refl _,Le.slcL (by simp) (fun j hj=>qpr (by omega) j),Le.of_eq (congrArg (AV.int _) h2.1),trivial⟩
theorem jsb (m:Md) (hM:ModOk m) (s:Stt) (P E:Nat) (hf:fitsB m s=true) (h:qah m s ⟨0,P,E,0⟩=true) (ha:((m.procs.getD P pr0).edges.getD E ed0).act≠2):Con Tryz.prog 12 [m.av,s.av,(⟨0,P,E,0⟩:Mv).av] (qeq m s P ((m.procs.getD P pr0).edges.getD E ed0)).av:=by
 have hs:=qco hM hf
 unfold qah at h
 rw [zb rfl,zf,zf] at h
 obtain ⟨h2,h3,h4⟩:=h
 have h3:=zm h3
 simp only at h3
 have h5:P<m.procs.length:=by omega
 have h6:E<(m.procs.getD P pr0).edges.length:=by have:=h3.2.2.2;rw [zr] at this;exact Int.ofNat_lt.1 this
 have hed:EdOk m.tree.length m.vars.length m.chans.length (m.procs.getD P pr0).places ((m.procs.getD P pr0).edges.getD E ed0):=edOk hM h5 h6
 have h4:canB m s P ((m.procs.getD P pr0).edges.getD E ed0)=true:=h4
 have hso:=qkv hM.ok hf
 have hat:s.at_.length=m.procs.length:=((jn m s).1 hf).1.1
 have hex:=hed.ex
 have hnx:=hed.nex
 have hvr:=hed.var
 have hch:=hed.chn
 have hac:=hed.act
 have hxl:0≤((m.procs.getD P pr0).edges.getD E ed0).expr→((m.procs.getD P pr0).edges.getD E ed0).expr<m.tree.length:=fun h0=>by
  by_cases h:((m.procs.getD P pr0).edges.getD E ed0).act=1∨((m.procs.getD P pr0).edges.getD E ed0).act=2∨((m.procs.getD P pr0).edges.getD E ed0).act=4∨((m.procs.getD P pr0).edges.getD E ed0).act=5
  ·exact (hex h).2
  ·have:=hnx (by omega);omega
 have hvl:=((jn m s).1 hf).1.2.1
 have hcl:=((jn m s).1 hf).1.2.2.1
 have hq:=jeo h4
 have hto:=hed.to
 have hT:=qpi hM hf (p:=P) hto (qpj h4)
 have hA:∀ j,(if j=P then [iv ((m.procs.getD P pr0).edges.getD E ed0).to] else encL (fun n=>[iv n]) 0 s.at_ j)=encL (fun n=>[iv n]) 0 (s.at_.set P ((m.procs.getD P pr0).edges.getD E ed0).to) j:=qcj (fun n=>[iv n]) 0 s.at_ P ((m.procs.getD P pr0).edges.getD E ed0).to (by omega)
 refine zK {} 300 Tryz.func12 (fun c0 rdb=>?_)
 ((conv=>whnf);refine zT 300 [] (jel s hs) qa ?_)
 (repeat' ((conv=>whnf);first|refine zO ?_|refine Ob.auto ?_|refine zC 300 (qhx m hM.ok P s hso m.tree.length ((m.procs.getD P pr0).edges.getD E ed0).expr (by omega) (hxl (by omega)) (Nat.sub_le _ _)) ?_|refine zD 300 ?_|(apply zB <;> intro hb <;> (try simp [-zd] at hb) <;> try (exfalso;omega))))
 ·((conv=>whnf);refine zQ 300 ?_)
  (repeat' ((conv=>whnf);first|refine zA ?_|refine Ob.auto ?_|(refine CallY.con (qje (valN m P s m.tree.length ((m.procs.getD P pr0).edges.getD E ed0).expr).1 (m.vars.getD ((m.procs.getD P pr0).edges.getD E ed0).var.toNat vr0).width) (by rfl) leA ?_)|fail))
  have hTe:qt m s P ((m.procs.getD P pr0).edges.getD E ed0)=⟨s.at_.set P ((m.procs.getD P pr0).edges.getD E ed0).to,s.vars.set ((m.procs.getD P pr0).edges.getD E ed0).var.toNat (trim (valN m P s m.tree.length ((m.procs.getD P pr0).edges.getD E ed0).expr).1 (m.vars.getD ((m.procs.getD P pr0).edges.getD E ed0).var.toNat vr0).width),s.chans,-1⟩:=by
   unfold qt val;simp only;rw [zb (by assumption),za (by omega)]
  (conv=>whnf)
  refine qou (fun _=>rfl) 300 (fun hg=>qpp m hM (qt m s P ((m.procs.getD P pr0).edges.getD E ed0)) hT P h5) (fun hg=>⟨fun _=>?_,fun _=>?_,fun _=>trivial,trivial⟩) (fun hg=>And.intro (by exact Le.cnd hg) (And.intro (Le.trans (by exact Le.cnd hg) ?_) (And.intro (by exact Le.cnd hg) trivial))) (by rfl) (by kernel_rfl) ?_
  ·exact qc
  ·exact qc
  ·rw [hTe];exact Le.agg ⟨Le.slc (by simp) (fun j hj=>hA j),Le.slc (by simp) (fun j hj=>qcj (fun n=>[iv n]) 0 s.vars ((m.procs.getD P pr0).edges.getD E ed0).var.toNat _ (by omega) j),Le.refl _,Le.refl _,trivial⟩
  (repeat' ((conv=>whnf);first|refine Ob.auto ?_|(apply zB <;> intro hb <;> (try simp [-zd] at hb) <;> try (exfalso;omega))))
  ·refine Le.agg ⟨?_,?_,?_,Le.of_eq (congrArg (AV.int _) (zb hb).symm),trivial⟩
   ·show Le _ (ints (qt m s P ((m.procs.getD P pr0).edges.getD E ed0)).at_)
    rw [hTe];exact Le.slc (by simp) (fun j hj=>hA j)
   ·show Le _ (ints (qt m s P ((m.procs.getD P pr0).edges.getD E ed0)).vars)
    rw [hTe];exact Le.slc (by simp) (fun j hj=>qcj (fun n=>[iv n]) 0 s.vars ((m.procs.getD P pr0).edges.getD E ed0).var.toNat _ (by omega) j)
   ·show Le _ (slcL (fun l=>[ints l]) [] 1 (qt m s P ((m.procs.getD P pr0).edges.getD E ed0)).chans)
    rw [hTe];exact Le.refl _
  ·refine Le.agg ⟨?_,?_,?_,Le.of_eq (congrArg (AV.int _) (za (fun h=>?_)).symm),trivial⟩
   ·show Le _ (ints (qt m s P ((m.procs.getD P pr0).edges.getD E ed0)).at_)
    rw [hTe];exact Le.slc (by simp) (fun j hj=>hA j)
   ·show Le _ (ints (qt m s P ((m.procs.getD P pr0).edges.getD E ed0)).vars)
    rw [hTe];exact Le.slc (by simp) (fun j hj=>qcj (fun n=>[iv n]) 0 s.vars ((m.procs.getD P pr0).edges.getD E ed0).var.toNat _ (by omega) j)
   ·show Le _ (slcL (fun l=>[ints l]) [] 1 (qt m s P ((m.procs.getD P pr0).edges.getD E ed0)).chans)
    rw [hTe];exact Le.refl _
   ·have:=hb h.1;rw [h.2] at this;cases this
 ·have h0:True:=trivial
  have hTe:qt m s P ((m.procs.getD P pr0).edges.getD E ed0)=⟨s.at_.set P ((m.procs.getD P pr0).edges.getD E ed0).to,s.vars,s.chans,-1⟩:=by
   unfold qt;simp only;rw [za (by assumption),za (by assumption),za (by assumption)]
  (conv=>whnf)
  refine qou (fun _=>rfl) 300 (fun hg=>qpp m hM (qt m s P ((m.procs.getD P pr0).edges.getD E ed0)) hT P h5) (fun hg=>⟨fun _=>?_,fun _=>?_,fun _=>trivial,trivial⟩) (fun hg=>And.intro (by exact Le.cnd hg) (And.intro (Le.trans (by exact Le.cnd hg) ?_) (And.intro (by exact Le.cnd hg) trivial))) (by rfl) (by kernel_rfl) ?_
  ·exact qc
  ·exact qc
  ·rw [hTe];exact Le.agg ⟨Le.slc (by simp) (fun j hj=>hA j),Le.refl _,Le.refl _,Le.refl _,trivial⟩
  (repeat' ((conv=>whnf);first|refine Ob.auto ?_|(apply zB <;> intro hb <;> (try simp [-zd] at hb) <;> try (exfalso;omega))))
  ·refine Le.agg ⟨?_,?_,?_,Le.of_eq (congrArg (AV.int _) (zb hb).symm),trivial⟩
   ·show Le _ (ints (qt m s P ((m.procs.getD P pr0).edges.getD E ed0)).at_)
    rw [hTe];exact Le.slc (by simp) (fun j hj=>hA j)
   ·show Le _ (ints (qt m s P ((m.procs.getD P pr0).edges.getD E ed0)).vars)
    rw [hTe];exact Le.refl _
   ·show Le _ (slcL (fun l=>[ints l]) [] 1 (qt m s P ((m.procs.getD P pr0).edges.getD E ed0)).chans)
    rw [hTe];exact Le.refl _
  ·refine Le.agg ⟨?_,?_,?_,Le.of_eq (congrArg (AV.int _) (za (fun h=>?_)).symm),trivial⟩
   ·show Le _ (ints (qt m s P ((m.procs.getD P pr0).edges.getD E ed0)).at_)
    rw [hTe];exact Le.slc (by simp) (fun j hj=>hA j)
   ·show Le _ (ints (qt m s P ((m.procs.getD P pr0).edges.getD E ed0)).vars)
    rw [hTe];exact Le.refl _
   ·show Le _ (slcL (fun l=>[ints l]) [] 1 (qt m s P ((m.procs.getD P pr0).edges.getD E ed0)).chans)
    rw [hTe];exact Le.refl _
   ·have:=hb h.1;rw [h.2] at this;cases this
 ·((conv=>whnf);refine zQ 300 ?_)
  have hq3:=hq (by assumption)
  have hq4:(1:Int)≤((s.chans.getD ((m.procs.getD P pr0).edges.getD E ed0).chn.toNat []).length:Int):=by omega
  (repeat' ((conv=>whnf);first|refine zA ?_|refine zO ?_|refine Ob.auto ?_|(refine CallY.con (qje ((s.chans.getD ((m.procs.getD P pr0).edges.getD E ed0).chn.toNat []).getD 0 0) (m.vars.getD ((m.procs.getD P pr0).edges.getD E ed0).var.toNat vr0).width) (by rfl) leA ?_)|refine zD 300 ?_|fail))
  have hTe:qt m s P ((m.procs.getD P pr0).edges.getD E ed0)=⟨s.at_.set P ((m.procs.getD P pr0).edges.getD E ed0).to,s.vars.set ((m.procs.getD P pr0).edges.getD E ed0).var.toNat (trim ((s.chans.getD ((m.procs.getD P pr0).edges.getD E ed0).chn.toNat []).getD 0 0) (m.vars.getD ((m.procs.getD P pr0).edges.getD E ed0).var.toNat vr0).width),s.chans.set ((m.procs.getD P pr0).edges.getD E ed0).chn.toNat ((s.chans.getD ((m.procs.getD P pr0).edges.getD E ed0).chn.toNat []).drop 1),-1⟩:=by
   unfold qt;simp only;rw [za (by assumption),za (by assumption),zb (by assumption)]
  (conv=>whnf)
  refine qou (fun _=>rfl) 300 (fun hg=>qpp m hM (qt m s P ((m.procs.getD P pr0).edges.getD E ed0)) hT P h5) (fun hg=>⟨fun _=>?_,fun _=>?_,fun _=>trivial,trivial⟩) (fun hg=>And.intro (by exact Le.cnd hg) (And.intro (Le.trans (by exact Le.cnd hg) ?_) (And.intro (by exact Le.cnd hg) trivial))) (by rfl) (by kernel_rfl) ?_
  ·exact qc
  ·exact qc
  ·rw [hTe];exact Le.agg ⟨Le.slc (by simp) (fun j hj=>hA j),Le.slc (by simp) (fun j hj=>qcj (fun n=>[iv n]) 0 s.vars ((m.procs.getD P pr0).edges.getD E ed0).var.toNat _ (by omega) j),Le.slcL (by simp) (fun j hj=>qpr (c:=((m.procs.getD P pr0).edges.getD E ed0).chn.toNat) (by omega) j),Le.refl _,trivial⟩
  (repeat' ((conv=>whnf);first|refine Ob.auto ?_|(apply zB <;> intro hb <;> (try simp [-zd] at hb) <;> try (exfalso;omega))))
  ·refine Le.agg ⟨?_,?_,?_,Le.of_eq (congrArg (AV.int _) (zb hb).symm),trivial⟩
   ·show Le _ (ints (qt m s P ((m.procs.getD P pr0).edges.getD E ed0)).at_)
    rw [hTe];exact Le.slc (by simp) (fun j hj=>hA j)
   ·show Le _ (ints (qt m s P ((m.procs.getD P pr0).edges.getD E ed0)).vars)
    rw [hTe];exact Le.slc (by simp) (fun j hj=>qcj (fun n=>[iv n]) 0 s.vars ((m.procs.getD P pr0).edges.getD E ed0).var.toNat _ (by omega) j)
   ·show Le _ (slcL (fun l=>[ints l]) [] 1 (qt m s P ((m.procs.getD P pr0).edges.getD E ed0)).chans)
    rw [hTe];exact Le.slcL (by simp) (fun j hj=>qpr (c:=((m.procs.getD P pr0).edges.getD E ed0).chn.toNat) (by omega) j)
  ·refine Le.agg ⟨?_,?_,?_,Le.of_eq (congrArg (AV.int _) (za (fun h=>?_)).symm),trivial⟩
   ·show Le _ (ints (qt m s P ((m.procs.getD P pr0).edges.getD E ed0)).at_)
    rw [hTe];exact Le.slc (by simp) (fun j hj=>hA j)
   ·show Le _ (ints (qt m s P ((m.procs.getD P pr0).edges.getD E ed0)).vars)
    rw [hTe];exact Le.slc (by simp) (fun j hj=>qcj (fun n=>[iv n]) 0 s.vars ((m.procs.getD P pr0).edges.getD E ed0).var.toNat _ (by omega) j)
   ·show Le _ (slcL (fun l=>[ints l]) [] 1 (qt m s P ((m.procs.getD P pr0).edges.getD E ed0)).chans)
    rw [hTe];exact Le.slcL (by simp) (fun j hj=>qpr (c:=((m.procs.getD P pr0).edges.getD E ed0).chn.toNat) (by omega) j)
   ·have:=hb h.1;rw [h.2] at this;cases this
 ·have h0:True:=trivial
  have hTe:qt m s P ((m.procs.getD P pr0).edges.getD E ed0)=⟨s.at_.set P ((m.procs.getD P pr0).edges.getD E ed0).to,s.vars,s.chans,-1⟩:=by
   unfold qt;simp only;rw [za (by assumption),za (by assumption),za (by assumption)]
  (conv=>whnf)
  refine qou (fun _=>rfl) 300 (fun hg=>qpp m hM (qt m s P ((m.procs.getD P pr0).edges.getD E ed0)) hT P h5) (fun hg=>⟨fun _=>?_,fun _=>?_,fun _=>trivial,trivial⟩) (fun hg=>And.intro (by exact Le.cnd hg) (And.intro (Le.trans (by exact Le.cnd hg) ?_) (And.intro (by exact Le.cnd hg) trivial))) (by rfl) (by kernel_rfl) ?_
  ·exact qc
  ·exact qc
  ·rw [hTe];exact Le.agg ⟨Le.slc (by simp) (fun j hj=>hA j),Le.refl _,Le.refl _,Le.refl _,trivial⟩
  (repeat' ((conv=>whnf);first|refine Ob.auto ?_|(apply zB <;> intro hb <;> (try simp [-zd] at hb) <;> try (exfalso;omega))))
  ·refine Le.agg ⟨?_,?_,?_,Le.of_eq (congrArg (AV.int _) (zb hb).symm),trivial⟩
   ·show Le _ (ints (qt m s P ((m.procs.getD P pr0).edges.getD E ed0)).at_)
    rw [hTe];exact Le.slc (by simp) (fun j hj=>hA j)
   ·show Le _ (ints (qt m s P ((m.procs.getD P pr0).edges.getD E ed0)).vars)
    rw [hTe];exact Le.refl _
   ·show Le _ (slcL (fun l=>[ints l]) [] 1 (qt m s P ((m.procs.getD P pr0).edges.getD E ed0)).chans)
    rw [hTe];exact Le.refl _
  ·refine Le.agg ⟨?_,?_,?_,Le.of_eq (congrArg (AV.int _) (za (fun h=>?_)).symm),trivial⟩
   ·show Le _ (ints (qt m s P ((m.procs.getD P pr0).edges.getD E ed0)).at_)
    rw [hTe];exact Le.slc (by simp) (fun j hj=>hA j)
   ·show Le _ (ints (qt m s P ((m.procs.getD P pr0).edges.getD E ed0)).vars)
    rw [hTe];exact Le.refl _
   ·show Le _ (slcL (fun l=>[ints l]) [] 1 (qt m s P ((m.procs.getD P pr0).edges.getD E ed0)).chans)
    rw [hTe];exact Le.refl _
   ·have:=hb h.1;rw [h.2] at this;cases this
end Go.Proofs.YtikahnkkfkoglaaGreatDoor
end
