/- Some texts of the library, one behind the other. -/
import Derived.Test.YtikahnkkfkoglaaGreatDoorY114
import Derived.Test.YtikahnkkfkoglaaGreatDoorY12
import Derived.Test.YtikahnkkfkoglaaGreatDoorY11
import Derived.Test.YtikahnkkfkoglaaGreatDoorY18
import Derived.Test.YtikahnkkfkoglaaGreatDoorY17
import Derived.Test.YtikahnkkfkoglaaGreatDoorY1MkQ
import Derived.Test.YtikahnkkfkoglaaGreatDoorY16
set_option linter.unusedSimpArgs false
set_option linter.unusedVariables false
section
namespace Go.Proofs.YtikahnkkfkoglaaGreatDoor
open Go Go.Sx Go.RowKit Go.St
set_option maxRecDepth 100000
set_option maxHeartbeats 4000000
def kBox (m:Md) (most:Int) (L:List Fnd):SO:=.box 71 (m.cells++[iv most,.own 2 0 0 L.length,.mapv 1])
def kMap (L:List Fnd):SO:=.box qz [.keys (qey L)]
def kRow (L:List Fnd):SO:=.row [] 67 10 0 L.length (encL Fnd.cells Fnd.none L)
theorem jpe (L:List Fnd) (f:Fnd):qey (L++[f])=qey L++[keyT f.s]:=by simp [qey]
theorem qvp (m:Md) (hM:ModOk m) (most:Int) (L:List Fnd) (hL:L.length≤20000) (f:Fnd) (hf:fitsB m f.s=true) :
  Trip Tryz.prog 24 [.ptr 0 0,.agg f.cells] [kBox m most L,kMap L,kRow L] (.bool (addF most L f).2)
   [(0,kBox m most (addF most L f).1),(1,kMap (addF most L f).1),(2,kRow (addF most L f).1)] 3:=by
 have hk:=joh f.s (qex hM hf) (jpd hM hf)
 unfold kBox kMap kRow
 refine zM {} 300 Tryz.func24 (fun c0 rdb mpb=>?_)
 (repeat' ((conv=>whnf);first|refine zA ?_|refine zO ?_|refine Ob.auto ?_|refine zI ?_|refine zC 300 (hk) ?_|refine zG 300 (fun hg=>hk) ?_|(refine CallY.con (hk) (by rfl) leA ?_)|(refine CallZ.con (fun hg=>hk) jn (by rfl) ?_)|(refine ql (fun _=>rfl) 300 (hk) qc (by (repeat' (first|exact trivial|exact Le.refl _|(refine And.intro ?_ ?_))) <;> fail) (by rfl) (by kernel_rfl) ?_)|(refine qw (fun _=>rfl) 300 (fun hg=>hk) (fun hg=>qc) (fun hg=>(by (repeat' (first|exact trivial|exact Le.refl _|exact Le.cnd hg|(refine And.intro ?_ ?_))) <;> fail)) (by rfl) (by kernel_rfl) ?_)|refine zD 300 ?_|(apply zB <;> intro hb <;> (try simp [-List.getD_eq_getElem?_getD] at hb) <;> try (exfalso;omega))|refine Ob.intro ?_ ?_))
 ·have e:addF most L f=(L,true):=zb hb
  rw [e]
  exact ⟨Le.refl _,qa⟩
 ·rename_i hk0
  have e:addF most L f=(L,false):=by
   unfold addF qlp
   rw [za (by rw [hk0];decide),zb hb]
  rw [e]
  exact ⟨Le.refl _,qa⟩
 ·rename_i hk0
  have e:addF most L f=(L++[f],true):=by
   unfold addF qlp
   rw [za (by rw [hk0];decide),za hb]
  rw [e]
  refine ⟨Le.refl _,⟨rfl,Le.refl _,Le.refl _,Le.refl _,Le.refl _,Le.refl _,Le.refl _,Le.refl _,Le.refl _,Le.of_eq (congrArg (AV.own 2 0 0) (by simp)),Le.refl _,trivial⟩,⟨rfl,Le.of_eq (congrArg AV.keys ?_),trivial⟩,⟨⟨rfl,rfl,rfl⟩,rfl,by simp,qnf (enc:=Fnd.cells) (d:=Fnd.none) (x:=f) rfl⟩,trivial⟩
  rw [jpe,hk0];rfl
end Go.Proofs.YtikahnkkfkoglaaGreatDoor
end
section
namespace Go.Proofs.YtikahnkkfkoglaaGreatDoor
open List renaming getD_eq_getElem?_getD → zd
open Go Go.Sx Go.RowKit Go.St
set_option maxRecDepth 100000
set_option maxHeartbeats 4000000
theorem qiq (m:Md) (hm:MOk m) (s:Stt) (hf:fitsB m s=true) (hs:SSz s) (p:Nat) (hp:p<m.procs.length) (e:Ed) {pl:Int} (he:EdOk m.tree.length m.vars.length m.chans.length pl e) :
  Con Tryz.prog 81 [m.av,s.av,iv p,.agg e.cells] (.bool (canB m s p e)):=by
 have hso:=qup hm hf
 have hat:s.at_.length=m.procs.length:=((qao m s).1 hf).1.1
 have hcl:=hso.cl
 have hch:=he.chn
 have hsv:e.act=1∨e.act=2∨e.act=4∨e.act=5→sval m p s e.expr=val m p s e.expr∧decide (e.expr<0)=false:=fun h=>⟨zb ⟨(he.ex h).1,(he.ex h).2,hf⟩,zay (by have:=he.ex h;omega)⟩
 have hnx:e.act=0∨e.act=3→decide (e.expr<0)=true:=fun h=>xl (by have:=he.nex h;omega)
 have hac:=he.act
 refine zK {} 300 Tryz.func81 (fun c0 rdb=>?_)
 (repeat' ((conv=>whnf);first|refine zO ?_|refine Ob.auto ?_|refine zC 300 (quq m hm p s hs e.expr) ?_|refine zD 300 ?_|(apply zB <;> intro hb <;> (try simp [-zd] at hb) <;> try (exfalso;omega))))
 all_goals refine Le.of_eq (congrArg AV.bool ?_)
 all_goals unfold canB qlen room
 ·have h:(s.at_.getD p 0 == e.frm)=false:=by simpa [-zd] using hb
  rw [h];rfl
 ·have h:(s.at_.getD p 0 == e.frm)=true:=by simp [-zd, *]
  have h0:e.act=0:=by assumption
  rw [h,hnx (.inl h0),za (by omega),za (by omega),za (by omega),za (by omega)];rfl
 ·have h:(s.at_.getD p 0 == e.frm)=true:=by simp [-zd, *]
  have h0:e.act=3:=by assumption
  rw [h,hnx (.inr h0),za (by omega),zb h0];rfl
 ·have h0:e.act=2:=by assumption
  have h:decide (((s.chans.getD e.chn.toNat []).length:Int)<(m.chans.getD e.chn.toNat ch0).room)=false:=zay (by omega)
  rw [zb h0,h,Bool.and_false]
 ·have h:(s.at_.getD p 0 == e.frm)=true:=by simp [-zd, *]
  have h0:e.act=2:=by assumption
  obtain ⟨h1,h2⟩:=hsv (by omega)
  have h3:decide (((s.chans.getD e.chn.toNat []).length:Int)<(m.chans.getD e.chn.toNat ch0).room)=true:=xl (by omega)
  rw [h,h1,h2,zb h0,h3,Bool.and_true];rfl
 ·have h:(s.at_.getD p 0 == e.frm)=true:=by simp [-zd, *]
  have h0:e.act=4:=by assumption
  obtain ⟨h1,h2⟩:=hsv (by omega)
  rw [h,h1,h2,za (by omega),za (by omega),zb h0,za (of_decide_eq_false h2)];rfl
 ·have h:(s.at_.getD p 0 == e.frm)=true:=by simp [-zd, *]
  have h0:e.act=5:=by assumption
  obtain ⟨h1,h2⟩:=hsv (by omega)
  rw [h,h1,h2,za (by omega),za (by omega),za (by omega),zb h0,za (of_decide_eq_false h2)];rfl
 ·have h:(s.at_.getD p 0 == e.frm)=true:=by simp [-zd, *]
  have h0:e.act=1:=by omega
  obtain ⟨h1,h2⟩:=hsv (by omega)
  rw [h,h1,h2,za (by omega),za (by omega),za (by omega),za (by omega),Bool.and_true];rfl
theorem qkb (m:Md) (hm:MOk m) (s:Stt) (hcl:s.chans.length=m.chans.length) (c:Nat) (hc:c<m.chans.length):Con Tryz.prog 82 [m.av,s.av,iv c] (.bool (qnq m s c)):=by
 refine zK {} 300 Tryz.func82 (fun c0 rdb=>?_)
 (repeat' ((conv=>whnf);first|refine Ob.auto ?_|fail))
 exact Le.refl _
theorem qkc (m:Md) (hm:MOk m) (s:Stt) (hcl:s.chans.length=m.chans.length) (c:Nat) (hc:c<m.chans.length):Con Tryz.prog 83 [m.av,s.av,iv c] (.bool (qll m s c)):=by
 refine zK {} 300 Tryz.func83 (fun c0 rdb=>?_)
 (repeat' ((conv=>whnf);first|refine zO ?_|refine Ob.auto ?_|refine zD 300 ?_|fail))
 exact Le.refl _
theorem jcq (m:Md) (hm:MOk m) (s:Stt) (hf:fitsB m s=true) (hs:SSz s) (p:Nat) (hp:p<m.procs.length) {pl:Int} (he:∀ e∈qt m p,EdOk m.tree.length m.vars.length m.chans.length pl e) (hn:(qt m p).length≤40000) :
  Con Tryz.prog 121 [m.av,s.av,iv p] (.bool (quu m s p)):=by
 refine zK {} 300 Tryz.func121 (fun c0 rdb=>?_)
 (repeat' ((conv=>whnf);first|refine Ob.auto ?_|fail))
 ((conv=>whnf);refine qo (fun _=>rfl) 300 1 (fun i:Nat=>[(16,iv i),(6,.bool false)]) (fun _=>[]) (fun i=>i≤(qt m p).length∧∀ j,j<i→canB m s p ((qt m p).getD j ed0)=false) (fun i=>(qt m p).length - i) (0) (⟨xb _,fun j hj=>absurd hj (zj j)⟩) qa qa (fun _=>rfl) (by kernel_rfl) ?_;(conv=>whnf))
 intro i hi
 (repeat' ((conv=>whnf);first|refine Ob.auto ?_|(apply zB <;> intro hb <;> (try simp [-zd] at hb) <;> try (exfalso;omega))))
 ·have hil:i<(qt m p).length:=by assumption
  ((conv=>whnf);refine qef (fun _=>rfl) 300 (qiq m hm s hf hs p hp ((qt m p).getD i ed0) (he _ (qm _ _ _ hil))) (by rfl) leA (by kernel_rfl) ?_)
  (repeat' ((conv=>whnf);first|refine Ob.auto ?_|(apply zB <;> intro hb <;> (try simp [-zd] at hb) <;> try (exfalso;omega))))
  ·exact Le.of_eq (congrArg AV.bool (List.any_eq_true.2 ⟨_,qm _ _ _ hil,by assumption⟩).symm)
  ·((conv=>whnf);refine ⟨i+1,⟨hil,qbe hi.2 (by assumption)⟩,⟨qa,qa⟩,⟨qa,qa⟩,?_⟩;(first|omega|(dsimp only;omega)|skip))
 ·have hil:(qt m p).length≤i:=by assumption
  refine Le.of_eq (congrArg AV.bool ?_)
  unfold quu
  rw [Eq.comm,List.any_eq_false]
  intro e hme
  obtain ⟨j,hj,rfl⟩:=List.mem_iff_getElem.1 hme
  have:=hi.2 j (by omega)
  rw [zd,ze hj] at this
  simp only [zaj] at this
  rw [this];decide
def qob (m:Md) (s:Stt) (p e:Int):Bool:=fitsB m s && decide (0≤p∧p<m.procs.length∧0≤e∧e<(qt m p.toNat).length) && canB m s p.toNat ((qt m p.toNat).getD e.toNat ed0)
theorem jpf (m:Md) (hm:MOk m) (s:Stt) (hs:SSz s) (he:∀ q∈m.procs,∀ e∈q.edges,EdOk m.tree.length m.vars.length m.chans.length q.places e) (p e:Int) :
  Con Tryz.prog 119 [m.av,s.av,iv p,iv e] (.bool (qob m s p e)):=by
 refine zK {} 300 Tryz.func119 (fun c0 rdb=>?_)
 (repeat' ((conv=>whnf);first|refine Ob.auto ?_|refine zC 300 (qab m s hs) ?_|(apply zB <;> intro hb <;> (try simp [-zd] at hb) <;> try (exfalso;omega))))
 ·refine Le.of_eq (congrArg AV.bool ?_)
  have hb':¬ (fitsB m s=true∧0≤p∧p<m.procs.length∧0≤e∧e<(qt m p.toNat).length):=fun ⟨h1,h2,h3,h4,h5⟩=>by
   have h5':e<(m.procs.getD p.toNat pr0).edges.length:=h5
   rcases hb with (((hb|hb)|hb)|hb)|hb
   ·rw [h1] at hb;cases hb
   all_goals omega
  unfold qob
  by_cases h1:fitsB m s=true
  ·rw [zay (fun h=>hb' ⟨h1,h⟩),Bool.and_false];rfl
  ·rw [Bool.not_eq_true] at h1
   rw [h1];rfl
 ·obtain ⟨⟨⟨⟨hf,h0⟩,h1⟩,h2⟩,h3⟩:=hb
  obtain ⟨P,rfl⟩:=zbd h0
  obtain ⟨E,rfl⟩:=zbd h2
  have hP:P<m.procs.length:=by omega
  have h3':(E:Int)<(qt m P).length:=h3
  have hE:E<(qt m P).length:=by omega
  (repeat' ((conv=>whnf);first|refine zA ?_|refine Ob.auto ?_|(refine CallY.con (qiq m hm s hf hs P hP ((qt m P).getD E ed0) (he _ (qm _ _ _ hP) _ (qm _ _ _ hE))) (by rfl) leA ?_)|(refine zQ 300 ?_)|fail))
  refine Le.of_eq (congrArg AV.bool ?_)
  unfold qob
  rw [hf,zy,zy,xl ⟨by omega,by omega,by omega,by omega⟩]
  rfl
end Go.Proofs.YtikahnkkfkoglaaGreatDoor
end
section
namespace Go.Proofs.YtikahnkkfkoglaaGreatDoor
open Go Go.Sx Go.RowKit Go.St
set_option maxRecDepth 100000
set_option maxHeartbeats 4000000
theorem qrx (m:Md) (hM:ModOk m) (s:Stt) (hf:fitsB m s=true) (v:Mv):Con Tryz.prog 84 [m.av,s.av,v.av] (.bool (qbp m s v)):=by
 have hs:=qex hM hf
 have hcl:=((qao m s).1 hf).1.2.2.1
 have hen:=jpf m hM.ok s hs (fun q hq=>(hM.pr q hq).ed)
 obtain ⟨k,p,e,c⟩:=v
 by_cases hc:0≤c
 ·obtain ⟨c,rfl⟩:=zbd hc
  refine zK {} 300 Tryz.func84 (fun c0 rdb=>?_)
  (repeat' ((conv=>whnf);first|refine Ob.auto ?_|refine zG 300 (fun hg=>hen p e) ?_|refine zC 300 (qkb m hM.ok s hcl c (by omega)) ?_|refine zC 300 (qkc m hM.ok s hcl c (by omega)) ?_|(apply zB <;> intro hb <;> (try simp [-List.getD_eq_getElem?_getD] at hb) <;> try (exfalso;omega))))
  all_goals refine Le.of_eq (congrArg AV.bool ?_)
  ·subst hb
   rw [Bool.eq_iff_iff];simp [qbp,qob,hf,and_assoc]
  all_goals (rw [Bool.eq_iff_iff];simp [qbp, *])
  all_goals omega
 ·refine zK {} 300 Tryz.func84 (fun c0 rdb=>?_)
  (repeat' ((conv=>whnf);first|refine Ob.auto ?_|refine zG 300 (fun hg=>hen p e) ?_|(apply zB <;> intro hb <;> (try simp [-List.getD_eq_getElem?_getD] at hb) <;> try (exfalso;omega))))
  all_goals refine Le.of_eq (congrArg AV.bool ?_)
  ·subst hb
   rw [Bool.eq_iff_iff];simp [qbp,qob,hf,and_assoc]
  all_goals (rw [Bool.eq_iff_iff];simp [qbp, *])
  all_goals omega
end Go.Proofs.YtikahnkkfkoglaaGreatDoor
end
