/- Some texts of the library, one behind the other. -/
import Derived.Test.YtikahnkkfkoglaaGreatDoorY215
import Derived.Test.YtikahnkkfkoglaaGreatDoorY22
import Derived.Test.YtikahnkkfkoglaaGreatDoorY213
set_option linter.unusedSimpArgs false
set_option linter.unusedVariables false
section
namespace Go.Proofs.YtikahnkkfkoglaaGreatDoor
open Go Go.Sx Go.RowKit Go.St
set_option maxRecDepth 100000
set_option maxHeartbeats 4000000
theorem jel (s:Stt) (hs:SSz s):Trip Tryz.prog 28 [s.av] [] (.agg [.own 2 0 0 s.at_.length,.own 6 0 0 s.vars.length,.own 15 0 0 s.chans.length,iv s.holder])
  [(2,.row [] 3 1 0 s.at_.length (encL (fun n=>[iv n]) 0 s.at_)),(6,.row [] 3 1 0 s.vars.length (encL (fun n=>[iv n]) 0 s.vars)),(15,.row [] 27 1 0 s.chans.length (encL (fun c=>[ints c]) [] s.chans))] 16:=by
 have ha:=hs.a
 have hv:=hs.v
 have hc:=hs.c
 have hl:=hs.l
 refine zL {lit:=true} 300 Tryz.func28 (fun c0 rdb mpb=>?_)
 (repeat' ((conv=>whnf);first|refine zO ?_|refine Ob.auto ?_|refine zD 300 ?_|fail))
 refine qdh 13 2 27 1 rfl rfl ?_
 ((conv=>whnf);refine jqb (fun _=>rfl) 300 1 (fun i:Nat=>[(4,iv i)]) (fun i=>[(13,.box 40 [.own 2 0 0 s.at_.length,.own 6 0 0 s.vars.length,.own 15 0 0 i,iv s.holder]),(15,.row [] 27 1 0 i (encL (fun c=>[ints c]) [] s.chans))]) (fun i=>i≤s.chans.length) (fun i=>s.chans.length - i) (0) (zv _) qa ⟨⟨rfl,Le.of_eq (congrArg (AV.own 2 0 0) (zo _)),Le.of_eq (congrArg (AV.own 6 0 0) (zo _)),Le.refl _,Le.refl _,trivial⟩,qcb (fun k hk=>absurd hk (zh k)),trivial⟩ (fun _=>rfl) (by kernel_rfl) ?_;(conv=>whnf))
 intro i hi
 have hli:i<s.chans.length→_:=fun h=>hl _ (qk s.chans i [] h)
 (repeat' ((conv=>whnf);first|refine zO ?_|refine Ob.auto ?_|refine zD 300 ?_|(apply zB <;> intro hb <;> (try simp [-List.getD_eq_getElem?_getD] at hb) <;> try (exfalso;omega))|refine Ob.intro ?_ ?_|fail))
 ·have hli:(s.chans.getD (i:Int).toNat []).length≤1000000:=hli (by omega)
  refine ⟨⟨rfl,rfl⟩,by omega,?_⟩
  dsimp only
  refine xa (zu _ (?_:_≤4000001)) (by decide +kernel);omega
 ·have hli:=hli (by omega)
  ((conv=>whnf);refine ⟨i+1,by omega,⟨_,TurnR.melt [0,1,2,6,13,15] 15 rfl (fun k hk=>?_),⟨qa,⟨?_,⟨⟨rfl,rfl,rfl⟩,rfl,rfl,fun k hk=>?_⟩,trivial⟩⟩,⟨qa,qa⟩⟩,?_⟩;(first|omega|(dsimp only;omega)|skip))
  ·show allP _ (if k<i then _ else _)
   by_cases h:k<i
   ·rw [zb h];exact ⟨trivial,trivial⟩
   ·obtain rfl:k=i:=by omega
    rw [za h,zb hk,zai];exact ⟨⟨trivial,⟨rfl,rfl⟩,trivial⟩,trivial⟩
  ·exact ⟨rfl,Le.refl _,Le.refl _,Le.refl _,Le.refl _,trivial⟩
  ·show LeL (List.map _ (if k<i then _ else _)) _
   by_cases h:k<i
   ·rw [zb h];exact LeL.refl _
   ·obtain rfl:k=i:=by omega
    rw [za h,zb hk,zai]
    exact ⟨Le.slc (by simp) (fun q hq=>qjl (by simpa using hq)),trivial⟩
  ·omega
 ·obtain rfl:i=s.chans.length:=by omega
  refine ⟨Le.refl _,⟨⟨rfl,rfl,by simp⟩,rfl,by simp,fun q hq=>LeL.of_eq (qjl (by simpa using hq))⟩,⟨⟨rfl,rfl,by simp⟩,rfl,by simp,fun q hq=>LeL.of_eq (qjl (by simpa using hq))⟩,⟨⟨rfl,rfl,rfl⟩,rfl,rfl,fun q hq=>LeL.refl _⟩,trivial⟩
theorem jem (s:Stt) (hs:SSz s):Trip Tryz.prog 28 [s.av] [] (.agg [.own 2 0 0 s.at_.length,.own 6 0 0 s.vars.length,.own 15 0 0 s.chans.length,iv s.holder])
  [(2,.row [] 3 1 0 s.at_.length (encL (fun n=>[iv n]) 0 s.at_)),(6,.row [] 3 1 0 s.vars.length (encL (fun n=>[iv n]) 0 s.vars)),(15,.row [16] 27 1 0 s.chans.length (fun k=>[.own 16 k 1 (s.chans.getD k []).length])),
   (16,.fam 3 1 s.chans.length (fun _=>1) (fun k=>(s.chans.getD k []).length) (fun k=>encL (fun n=>[iv n]) 0 (s.chans.getD k [])))] 17:=by
 have ha:=hs.a
 have hv:=hs.v
 have hc:=hs.c
 have hl:=hs.l
 refine zL {lit:=true} 300 Tryz.func28 (fun c0 rdb mpb=>?_)
 (repeat' ((conv=>whnf);first|refine zO ?_|refine Ob.auto ?_|refine zD 300 ?_|fail))
 refine qdh 13 2 27 1 rfl rfl ?_
 refine jcp 15 3 1 rfl ?_
 ((conv=>whnf);refine jcq (fun _=>rfl) 300 1 (fun i:Nat=>[(4,iv i)]) (fun i=>[(13,.box 40 [.own 2 0 0 s.at_.length,.own 6 0 0 s.vars.length,.own 15 0 0 i,iv s.holder]),(15,.row [16] 27 1 0 i (fun k=>[.own 16 k 1 (s.chans.getD k []).length])),(16,.fam 3 1 i (fun _=>1) (fun k=>(s.chans.getD k []).length) (fun k=>encL (fun n=>[iv n]) 0 (s.chans.getD k [])))]) (fun i=>i≤s.chans.length) (fun i=>s.chans.length - i) (0) (zv _) qa ⟨⟨rfl,Le.of_eq (congrArg (AV.own 2 0 0) (zo _)),Le.of_eq (congrArg (AV.own 6 0 0) (zo _)),Le.refl _,Le.refl _,trivial⟩,qcb (fun k hk=>absurd hk (zh k)),qgs (fun k hk=>absurd hk (zh k)) (fun k hk=>absurd hk (zh k)) (fun k _ hk=>absurd hk (zh k)),trivial⟩ (fun _=>rfl) (by kernel_rfl) ?_;(conv=>whnf))
 intro i hi
 have hli:i<s.chans.length→_:=fun h=>hl _ (qk s.chans i [] h)
 (repeat' ((conv=>whnf);first|refine zO ?_|refine Ob.auto ?_|refine zD 300 ?_|(apply zB <;> intro hb <;> (try simp [-List.getD_eq_getElem?_getD] at hb) <;> try (exfalso;omega))|refine Ob.intro ?_ ?_|fail))
 ·have hli:(s.chans.getD (i:Int).toNat []).length≤1000000:=hli (by omega)
  refine ⟨⟨rfl,rfl⟩,by omega,?_⟩
  dsimp only
  refine xa (zu _ (?_:_≤4000001)) (by decide +kernel);omega
 ·have hli:=hli (by omega)
  ((conv=>whnf);refine ⟨i+1,by omega,⟨_,Turn.join 15 16 19 rfl rfl rfl (by decide) (by exact (za (zbm i)).trans ((zb (zaw i)).trans (by rw [zai];rfl))) (fun k hk=>⟨_,_,zb hk⟩),⟨qa,⟨?_,qcb (fun k hk=>?_),qgs (fun k hk=>?_) (fun k hk=>?_) (fun k j hk hj=>?_),trivial⟩⟩,⟨qa,qa⟩⟩,?_⟩;(first|omega|(dsimp only;omega)|skip))
  ·exact ⟨rfl,Le.refl _,Le.refl _,Le.refl _,Le.refl _,trivial⟩
  ·by_cases hki:k=i
   ·subst hki
    refine (zb rfl).trans ?_
    simp
   ·refine (za hki).trans ?_
    exact zb (by omega)
  ·show Go.Sx.upd _ _ _ k=1
   unfold Go.Sx.upd
   by_cases hki:k=i
   ·subst hki;simp
   ·rw [za hki];exact zb (by omega)
  ·show Go.Sx.upd _ _ _ k=_
   unfold Go.Sx.upd
   by_cases hki:k=i
   ·subst hki;simp
   ·rw [za hki];exact zb (by omega)
  ·have hj:j<Go.Sx.upd (fun k=>if k<i then (s.chans.getD k []).length else 0) i (0+(s.chans.getD (i:Int).toNat []).length) k:=hj
   unfold Go.Sx.upd at hj
   show Go.Sx.upd (α:=Nat→List AV) _ _ _ k j=_
   unfold Go.Sx.upd
   by_cases hki:k=i
   ·subst hki
    rw [zb rfl] at hj
    rw [zb rfl]
    exact qjl (by simpa using hj)
   ·rw [za hki]
  ·omega
 ·obtain rfl:i=s.chans.length:=by omega
  refine ⟨Le.refl _,⟨⟨rfl,rfl,by simp⟩,rfl,by simp,fun q hq=>LeL.of_eq (qjl (by simpa using hq))⟩,⟨⟨rfl,rfl,by simp⟩,rfl,by simp,fun q hq=>LeL.of_eq (qjl (by simpa using hq))⟩,qcb (fun _ _=>rfl),qgs (fun _ _=>rfl) (fun _ _=>rfl) (fun _ _ _ _=>rfl),trivial⟩
end Go.Proofs.YtikahnkkfkoglaaGreatDoor
end
section
namespace Go.Proofs.YtikahnkkfkoglaaGreatDoor
open List renaming getD_eq_getElem?_getD → zd
open Go Go.Sx Go.RowKit Go.St
set_option maxRecDepth 100000
set_option maxHeartbeats 4000000
def rowI (l:List Int):SO:=.row [] 3 1 0 l.length (encL (fun n=>[iv n]) 0 l)
def boxS (s:Stt):SO:=.box 40 [.own 1 0 0 s.at_.length,.own 2 0 0 s.vars.length,.own 3 0 0 s.chans.length,iv s.holder]
def rowC (l:List (List Int)):SO:=.row [] 27 1 0 l.length (encL (fun c=>[ints c]) [] l)
theorem jen (m:Md) (p:Int) (s:Stt) (h k:Int):val m p { s with holder:=h } k=val m p s k:=by
 have key:∀ (n:Nat) (k:Int),valN m p { s with holder:=h } n k=valN m p s n k:=by
  intro n
  induction n with
  | zero=>intro k;rfl
  | succ n ih=>intro k;unfold valN;simp only [ih]
 exact key _ k
theorem jeo {m:Md} {s:Stt} {p:Nat} {e:Ed} (h:canB m s p e=true) (h3:e.act=3):0<(s.chans.getD e.chn.toNat []).length:=by
 unfold canB qlen at h
 rw [za (by omega),zb h3,zf] at h
 have:=zm h.2
 omega
theorem qcj {α:Type} (enc:α→List AV) (d:α) (l:List α) (i:Nat) (x:α) (hi:i<l.length) (j:Nat):(if j=i then enc x else encL enc d l j)=encL enc d (l.set i x) j:=by
 unfold encL
 rw [qmj]
 by_cases h:j=i
 ·rw [zb h,zb ⟨h,hi⟩]
 ·rw [za h,za (fun h'=>h h'.1)]
theorem jrt (m:Md) (hM:ModOk m) (s:Stt) (hf:fitsB m s=true) (hh:s.holder=-1) (p:Nat) (hp:p<m.procs.length) (e:Ed) (he:EdOk m.tree.length m.vars.length m.chans.length (m.procs.getD p pr0).places e) (hc:canB m s p e=true) (h2:e.act≠2) :
  Trip Tryz.prog 86 [m.av,.ptr 0 0,iv p,.agg e.cells] [boxS s,rowI s.at_,rowI s.vars,rowC s.chans] (.tup [])
   [(0,.box 40 (qeq m s p e).cells)] 4:=by
 have hs:=qco hM hf
 have h0:=((jn m s).1 hf).1
 have hsv:=qwa m hM.ok p s hs e.expr
 have hex:=he.ex
 have hvr:=he.var
 have hch:=he.chn
 have hto:=he.to
 have hat:p<s.at_.length:=by omega
 have hvl:=h0.2.1
 have hcl:=h0.2.2.1
 have hq:=jeo hc
 have hT:=qpi hM hf (p:=p) hto (qpj hc)
 have hTs:=qco hM hT
 have hmv:=jec m hM.ok (qt m s p e) hT hTs p hp (pl:=(m.procs.getD p pr0).places) (fun e he=>(hM.pr _ (qk m.procs p pr0 hp)).ed e he) (hM.psz _ (qk m.procs p pr0 hp)).1
 unfold boxS rowI rowC
 refine zL {} 300 Tryz.func86 (fun c0 rdb mpb=>?_)
 have hA:∀ j,(if j=p then [iv e.to] else encL (fun n=>[iv n]) 0 s.at_ j)=encL (fun n=>[iv n]) 0 (s.at_.set p e.to) j:=qcj (fun n=>[iv n]) 0 s.at_ p e.to hat
 (repeat' ((conv=>whnf);first|refine zO ?_|refine Ob.auto ?_|refine zD 300 ?_|(apply zB <;> intro hb <;> (try simp [-zd] at hb) <;> try (exfalso;omega))))
 ·have h1:e.act=1:=by assumption
  ((conv=>whnf);refine zQ 300 ?_)
  ((conv=>whnf);refine CallY.lend (hsv) (by repeat' (first|exact trivial|exact ⟨rfl,rfl⟩|exact rfl|assumption|(refine And.intro ?_ ?_)|(intro _))) leA (by rfl) ?_)
  (repeat' ((conv=>whnf);first|refine zA ?_|fail))
  ((conv=>whnf);refine zQ 300 ?_)
  (repeat' ((conv=>whnf);first|refine zA ?_|refine zO ?_|refine Ob.auto ?_|(refine CallY.con (qmf (sval m p s e.expr).1 (m.vars.getD e.var.toNat vr0).width) (by rfl) leA ?_)|refine zD 300 ?_|fail))
  ((conv=>whnf);refine qdp [0,4,5] 0 rfl frzA ?_)
  have hTe:qt m s p e=⟨s.at_.set p e.to,s.vars.set e.var.toNat (trim (sval m p s e.expr).1 (m.vars.getD e.var.toNat vr0).width),s.chans,-1⟩:=by
   have h3:=hex (.inl h1)
   simp [qt,h1,sval,h3,hf,za (show ¬ e.expr<0 by omega)]
  refine qsn 0 (qt m s p e).cells rfl (by
   rw [hTe]
   exact ⟨Le.slc (by simp) (fun j hj=>hA j),Le.slc (by simp) (fun j hj=>qcj (fun n=>[iv n]) 0 s.vars e.var.toNat _ (by omega) j),Le.refl _,Le.of_eq (congrArg (AV.int _) hh),trivial⟩) ?_
  (repeat' ((conv=>whnf);first|refine zA ?_|refine Ob.auto ?_|(refine CallZ.con (fun hg=>hmv) qz (by rfl) ?_)|(refine zQ 300 ?_)|(apply zB <;> intro hb <;> (try simp [-zd] at hb) <;> try (exfalso;omega))))
  ·exact ⟨Le.refl _,⟨rfl,Le.refl _,Le.refl _,Le.refl _,Le.of_eq (congrArg (AV.int _) (zb hb).symm),trivial⟩,trivial⟩
  ·refine ⟨Le.refl _,⟨rfl,Le.refl _,Le.refl _,Le.refl _,Le.of_eq (congrArg (AV.int _) ?_),trivial⟩,trivial⟩
   refine Eq.trans (by rw [hTe]) (za (fun h=>?_)).symm
   have:=hb h.1;rw [h.2] at this;cases this
 ·have h3:e.act=3:=by assumption
  ((conv=>whnf);refine zQ 300 ?_)
  (repeat' ((conv=>whnf);first|refine zA ?_|refine zO ?_|refine Ob.auto ?_|(refine CallY.con (qmf ((s.chans.getD e.chn.toNat []).getD 0 0) (m.vars.getD e.var.toNat vr0).width) (by rfl) leA ?_)|refine zD 300 ?_|fail))
  ((conv=>whnf);refine qdp [0,4,5] 0 rfl frzA ?_)
  have hD:∀ j,LeL (if j=e.chn.toNat then [AV.slc 1 ((s.chans.getD e.chn.toNat []).length - 1) fun i=>encL (fun n=>[iv n]) 0 (s.chans.getD e.chn.toNat []) (1+i)] else encL (fun c=>[ints c]) [] s.chans j) (encL (fun c=>[ints c]) [] (s.chans.set e.chn.toNat ((s.chans.getD e.chn.toNat []).drop 1)) j):=fun j=>by
   rw [← qcj (fun c=>[ints c]) [] s.chans e.chn.toNat _ (by omega) j]
   by_cases hj:j=e.chn.toNat
   ·rw [zb hj,zb hj]
    refine ⟨Le.slc (by simp) (fun q _=>?_),trivial⟩
    unfold encL
    rw [zd (l:=List.drop 1 _),xe,← zd]
   ·rw [za hj,za hj];exact LeL.refl _
  have hTe:qt m s p e=⟨s.at_.set p e.to,s.vars.set e.var.toNat (trim ((s.chans.getD e.chn.toNat []).getD 0 0) (m.vars.getD e.var.toNat vr0).width),s.chans.set e.chn.toNat ((s.chans.getD e.chn.toNat []).drop 1),-1⟩:=by
   simp [qt,h3]
  refine qsn 0 (qt m s p e).cells rfl (by
   rw [hTe]
   refine ⟨Le.slc (by simp) (fun j hj=>hA j),Le.slc (by simp) (fun j hj=>qcj (fun n=>[iv n]) 0 s.vars e.var.toNat _ (by omega) j),Le.slcL (by simp) (fun j hj=>?_),Le.of_eq (congrArg (AV.int _) hh),trivial⟩
   exact hD j) ?_
  (repeat' ((conv=>whnf);first|refine zA ?_|refine Ob.auto ?_|(refine CallZ.con (fun hg=>hmv) qz (by rfl) ?_)|(refine zQ 300 ?_)|(apply zB <;> intro hb <;> (try simp [-zd] at hb) <;> try (exfalso;omega))))
  ·exact ⟨Le.refl _,⟨rfl,Le.refl _,Le.refl _,Le.refl _,Le.of_eq (congrArg (AV.int _) (zb hb).symm),trivial⟩,trivial⟩
  ·refine ⟨Le.refl _,⟨rfl,Le.refl _,Le.refl _,Le.refl _,Le.of_eq (congrArg (AV.int _) ?_),trivial⟩,trivial⟩
   refine Eq.trans (by rw [hTe]) (za (fun h=>?_)).symm
   have:=hb h.1;rw [h.2] at this;cases this
 ·((conv=>whnf);refine qdp [0,4,5] 0 rfl frzA ?_)
  have hTe:qt m s p e=⟨s.at_.set p e.to,s.vars,s.chans,-1⟩:=by simp [qt,h2, *]
  refine qsn 0 (qt m s p e).cells rfl (by
   rw [hTe]
   exact ⟨Le.slc (by simp) (fun j hj=>hA j),Le.refl _,Le.refl _,Le.of_eq (congrArg (AV.int _) hh),trivial⟩) ?_
  (repeat' ((conv=>whnf);first|refine zA ?_|refine Ob.auto ?_|(refine CallZ.con (fun hg=>hmv) qz (by rfl) ?_)|(refine zQ 300 ?_)|(apply zB <;> intro hb <;> (try simp [-zd] at hb) <;> try (exfalso;omega))))
  ·exact ⟨Le.refl _,⟨rfl,Le.refl _,Le.refl _,Le.refl _,Le.of_eq (congrArg (AV.int _) (zb hb).symm),trivial⟩,trivial⟩
  ·refine ⟨Le.refl _,⟨rfl,Le.refl _,Le.refl _,Le.refl _,Le.of_eq (congrArg (AV.int _) ?_),trivial⟩,trivial⟩
   refine Eq.trans (by rw [hTe]) (za (fun h=>?_)).symm
   have:=hb h.1;rw [h.2] at this;cases this
end Go.Proofs.YtikahnkkfkoglaaGreatDoor
end
section
namespace Go.Proofs.YtikahnkkfkoglaaGreatDoor
open Go Go.Sx Go.RowKit Go.St
set_option maxRecDepth 100000
set_option maxHeartbeats 4000000
def rowF (l:List (List Int)):SO:=.row [4] 27 1 0 l.length (fun k=>[.own 4 k 1 (l.getD k []).length])
def famF (l:List (List Int)):SO:=.fam 3 1 l.length (fun _=>1) (fun k=>(l.getD k []).length) (fun k=>encL (fun n=>[iv n]) 0 (l.getD k []))
theorem qmq {L:List Int} {x:Int} {g:Nat→List AV} (hg:g 0=[iv x]) {j:Nat} (hj:j<L.length+1):appF L.length (encL (fun n=>[iv n]) 0 L) 1 g j=encL (fun n=>[iv n]) 0 (L++[x]) j:=by
 unfold appF encL
 rw [qko]
 by_cases hl:j<L.length
 ·rw [zb hl,zb hl]
 ·obtain rfl:j=L.length:=by omega
  rw [za hl,za hl,zb rfl,zb (by omega),zai,hg]
theorem jru (m:Md) (hM:ModOk m) (s:Stt) (hf:fitsB m s=true) (hh:s.holder=-1) (p:Nat) (hp:p<m.procs.length) (e:Ed) (he:EdOk m.tree.length m.vars.length m.chans.length (m.procs.getD p pr0).places e) (hc:canB m s p e=true) (h2:e.act=2) :
  Trip Tryz.prog 86 [m.av,.ptr 0 0,iv p,.agg e.cells] [boxS s,rowI s.at_,rowI s.vars,rowF s.chans,famF s.chans] (.tup [])
   [(0,.box 40 (qeq m s p e).cells)] 5:=by
 have hs:=qco hM hf
 have h0:=((jn m s).1 hf).1
 have hsv:=qwa m hM.ok p s hs e.expr
 have hex:=he.ex
 have hvr:=he.var
 have hch:=he.chn
 have hto:=he.to
 have hat:p<s.at_.length:=by omega
 have hvl:=h0.2.1
 have hcl:=h0.2.2.1
 have hT:=qpi hM hf (p:=p) hto (qpj hc)
 have hTs:=qco hM hT
 have hmv:=jec m hM.ok (qt m s p e) hT hTs p hp (pl:=(m.procs.getD p pr0).places) (fun e he=>(hM.pr _ (qk m.procs p pr0 hp)).ed e he) (hM.psz _ (qk m.procs p pr0 hp)).1
 have hA:∀ j,(if j=p then [iv e.to] else encL (fun n=>[iv n]) 0 s.at_ j)=encL (fun n=>[iv n]) 0 (s.at_.set p e.to) j:=qcj (fun n=>[iv n]) 0 s.at_ p e.to hat
 unfold boxS rowI rowF famF
 refine zL {} 300 Tryz.func86 (fun c0 rdb mpb=>?_)
 (repeat' ((conv=>whnf);first|(apply zB <;> intro hb <;> (try simp [-List.getD_eq_getElem?_getD] at hb) <;> try (exfalso;omega))))
 ((conv=>whnf);refine zQ 300 ?_)
 ((conv=>whnf);refine CallY.lend (hsv) (by repeat' (first|exact trivial|exact ⟨rfl,rfl⟩|exact rfl|assumption|(refine And.intro ?_ ?_)|(intro _))) leA (by rfl) ?_)
 (repeat' ((conv=>whnf);first|refine zA ?_|fail))
 ((conv=>whnf);refine qbm (fun _=>rfl) (by kernel_rfl) 300 [.con (iv (trim (sval m p s e.expr).1 (m.chans.getD e.chn.toNat ch0).width))] (by kernel_rfl) ?_)
 (repeat' ((conv=>whnf);first|refine zO ?_|refine Ob.auto ?_|(refine Ob.intro (by (first|exact ⟨by omega,by omega⟩|exact ⟨_,qmf (sval m p s e.expr).1 (m.chans.getD e.chn.toNat ch0).width,by rfl,LeL.refl _⟩)) ?_)|refine zD 300 ?_|refine Ob.intro ?_ ?_|fail))
 ·have hcl2:=hTs.l
  have hl:=hs.l _ (qk s.chans e.chn.toNat [] (by omega))
  refine ⟨by omega,⟨rfl,rfl⟩,by omega,?_⟩
  dsimp only
  refine xa (zu _ (?_:_≤4000001)) (by decide +kernel);omega
 ·exact ⟨⟨⟨rfl,rfl⟩,by omega⟩,by omega,by simp [upd],by simp [upd]⟩
 have hTe:qt m s p e=⟨s.at_.set p e.to,s.vars,s.chans.set e.chn.toNat (s.chans.getD e.chn.toNat []++[trim (sval m p s e.expr).1 (m.chans.getD e.chn.toNat ch0).width]),-1⟩:=by
  have h3:=hex (.inr (.inl h2))
  simp [qt,h2,sval,h3,hf,za (show ¬ e.expr<0 by omega)]
 generalize hmsg:trim (sval m p s e.expr).1 (m.chans.getD e.chn.toNat ch0).width=msg at hTe ⊢
 have hlen:∀ k,((s.chans.set e.chn.toNat (s.chans.getD e.chn.toNat []++[msg])).getD k []).length=if k=e.chn.toNat then (s.chans.getD e.chn.toNat []).length+1 else (s.chans.getD k []).length:=fun k=>by
  rw [qmj]
  by_cases h:k=e.chn.toNat
  ·rw [zb ⟨h,by omega⟩,zb h];simp
  ·rw [za (fun h'=>h h'.1),za h]
 refine jcs 3 (.row [4] 27 1 0 s.chans.length (fun k=>[.own 4 k 1 ((s.chans.set e.chn.toNat (s.chans.getD e.chn.toNat []++[msg])).getD k []).length])) rfl ⟨⟨rfl,rfl,rfl⟩,rfl,rfl,fun k hk=>?_⟩ ?_
 ·show LeL (if k=e.chn.toNat then [AV.own 4 e.chn.toNat 1 ((s.chans.getD e.chn.toNat []).length+1)] else [AV.own 4 k 1 (s.chans.getD k []).length]) _
  dsimp only
  rw [hlen]
  by_cases h:k=e.chn.toNat
  ·rw [zb h,zb h,h];exact LeL.refl _
  ·rw [za h,za h];exact LeL.refl _
 refine jcs 4 (.fam 3 1 s.chans.length (fun _=>1) (fun k=>((s.chans.set e.chn.toNat (s.chans.getD e.chn.toNat []++[msg])).getD k []).length) (fun k=>encL (fun n=>[iv n]) 0 ((s.chans.set e.chn.toNat (s.chans.getD e.chn.toNat []++[msg])).getD k []))) rfl (qgs (fun k hk=>?_) (fun k hk=>?_) (fun k j hk hj=>?_)) ?_
 ·show Go.Sx.upd _ _ _ k=1
  unfold Go.Sx.upd
  split <;> rfl
 ·exact (hlen k).symm
 ·show (Go.Sx.upd (α:=Nat→List AV) _ _ _ k) j=_
  unfold Go.Sx.upd
  rw [qmj]
  by_cases h:k=e.chn.toNat
  ·rw [zb h,zb ⟨h,by omega⟩]
   have hj2:j<(if k=e.chn.toNat then (s.chans.getD e.chn.toNat []).length+1 else (s.chans.getD k []).length):=hj
   rw [zb h] at hj2
   exact qmq rfl hj2
  ·rw [za h,za (fun h'=>h h'.1)]
 ((conv=>whnf);refine qdp [0,5,6] 0 rfl (by repeat' (first|exact trivial|exact ⟨rfl,rfl⟩|exact ⟨rfl,rfl,rfl⟩|assumption|(refine And.intro ?_ ?_)|(intro _))) ?_)
 refine qsn 0 (qt m s p e).cells rfl (by
  rw [hTe]
  exact ⟨Le.slc (by simp) (fun j hj=>hA j),Le.refl _,Le.slc (by simp) (fun j hj=>rfl),Le.of_eq (congrArg (AV.int _) hh),trivial⟩) ?_
 (repeat' ((conv=>whnf);first|refine zA ?_|refine Ob.auto ?_|(refine CallZ.con (fun hg=>hmv) qz (by rfl) ?_)|(refine zQ 300 ?_)|(apply zB <;> intro hb <;> (try simp [-List.getD_eq_getElem?_getD] at hb) <;> try (exfalso;omega))))
 ·exact ⟨Le.refl _,⟨rfl,Le.refl _,Le.refl _,Le.refl _,Le.of_eq (congrArg (AV.int _) (zb hb).symm),trivial⟩,trivial⟩
 ·refine ⟨Le.refl _,⟨rfl,Le.refl _,Le.refl _,Le.refl _,Le.of_eq (congrArg (AV.int _) ?_),trivial⟩,trivial⟩
  refine Eq.trans (by rw [hTe]) (za (fun h=>?_)).symm
  have:=hb h.1;rw [h.2] at this;cases this
end Go.Proofs.YtikahnkkfkoglaaGreatDoor
end
