/- Some texts of the library, one behind the other. -/
import Derived.Test.YtikahnkkfkoglaaGreatDoorY212
import Derived.Test.YtikahnkkfkoglaaGreatDoorY21
import Derived.Test.YtikahnkkfkoglaaGreatDoorY22
import Derived.Test.YtikahnkkfkoglaaGreatDoorY28
import Derived.Test.YtikahnkkfkoglaaGreatDoorY27
import Derived.Test.YtikahnkkfkoglaaGreatDoorY2MkQ
import Derived.Test.YtikahnkkfkoglaaGreatDoorY26
set_option linter.unusedSimpArgs false
set_option linter.unusedVariables false
section
namespace Go.Proofs.YtikahnkkfkoglaaGreatDoor
open List renaming getD_eq_getElem?_getD → zd
open Go Go.Sx Go.RowKit Go.St
set_option maxRecDepth 100000
set_option maxHeartbeats 4000000
def sBox (m:Md) (L:List Fnd) (full:Bool):SO:=.box 43 (m.cells++[.own 1 0 0 L.length,.own 2 0 0 L.length,.own 3 0 0 L.length,.own 4 0 0 L.length,.bool full])
def sSt (L:List Fnd):SO:=.row [] 40 4 0 L.length (encL (fun f:Fnd=>f.s.cells) Fnd.none L)
def sFr (L:List Fnd):SO:=.row [] 3 1 0 L.length (encL (fun f:Fnd=>[iv f.frm]) Fnd.none L)
def sBy (L:List Fnd):SO:=.row [] 48 4 0 L.length (encL (fun f:Fnd=>f.mv.cells) Fnd.none L)
def sFa (L:List Fnd):SO:=.row [] 3 1 0 L.length (encL (fun f:Fnd=>[iv f.depth]) Fnd.none L)
theorem jrl {m:Md} {L:List Fnd} (hL:∀ f∈L,fitsB m f.s=true) {s:Stt} (hs:fitsB m s=true):qgd L s=L.any fun f=>qeo f.s s:=by
 have h0:∀ f,fitsB m f=true→f.chans.length=m.chans.length:=fun f h=>((jn m f).1 h).1.2.2.1
 unfold qgd qgc qgk
 induction L with
 | nil=>rfl
 | cons f r ih=>
  rw [zab,List.any_cons,List.any_cons,jqn ((h0 _ (hL f (zp ..))).trans (h0 _ hs).symm),ih (fun g hg=>hL g (zq _ hg))]
theorem jrm {α:Type} {l:List α} {i:Nat} (d:α) (h:i<l.length) {x:α} (hx:x∈l.take (i+1)):x∈l.take i∨x=l.getD i d:=by
 rw [zbb,ze h,xk] at hx
 rcases hx with hx|hx
 ·exact .inl hx
 ·refine .inr ?_
  rw [zd,ze h]
  simpa using hx
theorem jrn (m:Md) (hM:ModOk m) (L:List Fnd) (hL:∀ f∈L,fitsB m f.s=true) (hl:L.length≤20000) (full:Bool) (s:Stt) (hs:fitsB m s=true) :
  Trip Tryz.prog 75 [.ptr 0 0,s.av] [sBox m L full,sSt L,sFr L,sBy L,sFa L] (.bool (qgd L s)) [(0,sBox m L full),(1,sSt L),(2,sFr L),(3,sBy L),(4,sFa L)] 5:=by
 rw [jrl hL hs]
 unfold sBox sSt sFr sBy sFa
 refine zM {} 300 Tryz.func75 (fun c0 rdb mpb=>?_)
 (repeat' ((conv=>whnf);first|refine zA ?_|refine zO ?_|refine Ob.auto ?_|refine zI ?_|refine zD 300 ?_|(apply zB <;> intro hb <;> (try simp [-zd] at hb) <;> try (exfalso;omega))|refine Ob.intro ?_ ?_))
 ((conv=>whnf);refine qm (fun _=>rfl) 300 1 (fun i:Nat=>[(5,iv i),(4,.bool false)]) (fun _=>[]) (fun i=>i≤L.length∧∀ f∈L.take i,qeo f.s s=false) (fun i=>L.length - i) (0) (⟨zv _,fun f hf=>by simp at hf⟩) qa qa (fun _=>rfl) (by kernel_rfl) ?_;(conv=>whnf))
 rintro i ⟨hi,hno⟩
 by_cases hil:i<L.length
 ·have hsm:=jrk (L.getD i Fnd.none).s s (qco hM (hL _ (qk L i Fnd.none hil)))
  (repeat' ((conv=>whnf);first|refine zA ?_|refine zO ?_|refine Ob.auto ?_|refine zI ?_|refine zD 300 ?_|(apply zB <;> intro hb <;> (try simp [-zd] at hb) <;> try (exfalso;omega))|refine Ob.intro ?_ ?_))
  (repeat' ((conv=>whnf);first|refine zA ?_|refine zO ?_|refine Ob.auto ?_|refine zI ?_|refine zC 300 (hsm) ?_|refine zG 300 (fun hg=>hsm) ?_|(refine CallY.con (hsm) (by rfl) leA ?_)|(refine CallZ.con (fun hg=>hsm) qz (by rfl) ?_)|(refine qi (fun _=>rfl) 300 (hsm) qc (by (repeat' (first|exact trivial|exact Le.refl _|(refine And.intro ?_ ?_))) <;> fail) (by rfl) (by kernel_rfl) ?_)|(refine qq (fun _=>rfl) 300 (fun hg=>hsm) (fun hg=>qc) (fun hg=>(by (repeat' (first|exact trivial|exact Le.refl _|exact Le.cnd hg|(refine And.intro ?_ ?_))) <;> fail)) (by rfl) (by kernel_rfl) ?_)|refine zD 300 ?_|(refine zQ 300 ?_)|(apply zB <;> intro hb <;> (try simp [-zd] at hb) <;> try (exfalso;omega))|refine Ob.intro ?_ ?_))
  ·have hb':qeo (L.getD i Fnd.none).s s=true:=by assumption
   exact ⟨Le.of_eq (congrArg AV.bool (List.any_eq_true.2 ⟨_,qk L i Fnd.none hil,hb'⟩).symm),qa⟩
  ·have hb':qeo (L.getD i Fnd.none).s s=false:=by assumption
   ((conv=>whnf);refine ⟨i+1,⟨hil,fun f hf=>by rcases jrm Fnd.none hil hf with h|h;exact hno f h;rw [h];exact hb'⟩,⟨qa,qa⟩,⟨qa,qa⟩,?_⟩;(first|omega|(dsimp only;omega)|skip))
 ·(repeat' ((conv=>whnf);first|refine zA ?_|refine zO ?_|refine Ob.auto ?_|refine zI ?_|refine zD 300 ?_|(apply zB <;> intro hb <;> (try simp [-zd] at hb) <;> try (exfalso;omega))|refine Ob.intro ?_ ?_))
  refine ⟨Le.of_eq (congrArg AV.bool (Eq.symm ?_)),qa⟩
  rw [zbi (by omega)] at hno
  rw [xf]
  intro h
  obtain ⟨f,h1,h2⟩:=List.any_eq_true.1 h
  rw [hno f h1] at h2
  cases h2
def qmn (a b c d:Nat) (m:Md) (L:List Fnd) (full:Bool):SO:=.box 43 (m.cells++[.own a 0 0 L.length,.own b 0 0 L.length,.own c 0 0 L.length,.own d 0 0 L.length,.bool full])
theorem jeb (m:Md) (hM:ModOk m) :
  Trip Tryz.prog 10 [m.av] [] (.ptr 10 0) [(10,qmn 4 5 7 8 m (qae m) false),(4,sSt (qae m)),(5,sFr (qae m)),(7,sBy (qae m)),(8,sFa (qae m))] 11:=by
 unfold qmn sSt sFr sBy sFa
 refine zL {lit:=true} 300 Tryz.func10 (fun c0 rdb mpb=>?_)
 (repeat' ((conv=>whnf);first|refine zA ?_|refine zO ?_|refine Ob.auto ?_|refine zI ?_|refine zD 300 ?_|(apply zB <;> intro hb <;> (try simp [-zd] at hb) <;> try (exfalso;omega))|refine Ob.intro ?_ ?_))
 (repeat' ((conv=>whnf);first|refine zO ?_|refine Ob.auto ?_|refine zI ?_|refine zC 300 (qmm m hM.ok) ?_|refine zG 300 (fun hg=>qmm m hM.ok) ?_|refine zX (qmm m hM.ok) ?_|refine zY (fun hg=>qmm m hM.ok) ?_|(refine qi (fun _=>rfl) 300 (qmm m hM.ok) qc (by (repeat' (first|exact trivial|exact Le.refl _|(refine And.intro ?_ ?_))) <;> fail) (by rfl) (by kernel_rfl) ?_)|(refine qq (fun _=>rfl) 300 (fun hg=>qmm m hM.ok) (fun hg=>qc) (fun hg=>(by (repeat' (first|exact trivial|exact Le.refl _|exact Le.cnd hg|(refine And.intro ?_ ?_))) <;> fail)) (by rfl) (by kernel_rfl) ?_)|(refine zR 300 ?_)|(apply zB <;> intro hb <;> (try simp [-zd] at hb) <;> try (exfalso;omega))|refine Ob.intro ?_ ?_))
 have h0:∀ k,k<1→k=0:=fun k hk=>by omega
 refine ⟨Le.refl _,SoLe.refl _,⟨⟨rfl,rfl,rfl⟩,rfl,rfl,fun k hk=>?_⟩,⟨⟨rfl,rfl,rfl⟩,rfl,rfl,fun k hk=>?_⟩,⟨⟨rfl,rfl,rfl⟩,rfl,rfl,fun k hk=>?_⟩,⟨⟨rfl,rfl,rfl⟩,rfl,rfl,fun k hk=>?_⟩,trivial⟩
 all_goals
  rw [h0 k hk]
  exact LeL.refl _
theorem qjk (m:Md) (hm:MOk m) (s:Stt) (hf:fitsB m s=true) (hs:SSz s) (p:Nat) (hp:p<m.procs.length) (e:Ed) {pl:Int} (he:EdOk m.tree.length m.vars.length m.chans.length pl e) :
  Con Tryz.prog 81 [m.av,s.av,iv p,.agg e.cells] (.bool (canB m s p e)):=by
 have hso:=qkv hm hf
 have hat:s.at_.length=m.procs.length:=((jn m s).1 hf).1.1
 have hcl:=hso.cl
 have hch:=he.chn
 have hsv:e.act=1∨e.act=2∨e.act=4∨e.act=5→sval m p s e.expr=val m p s e.expr∧decide (e.expr<0)=false:=fun h=>⟨zb ⟨(he.ex h).1,(he.ex h).2,hf⟩,zau (by have:=he.ex h;omega)⟩
 have hnx:e.act=0∨e.act=3→decide (e.expr<0)=true:=fun h=>xn (by have:=he.nex h;omega)
 have hac:=he.act
 refine zK {} 300 Tryz.func81 (fun c0 rdb=>?_)
 (repeat' ((conv=>whnf);first|refine zO ?_|refine Ob.auto ?_|refine zC 300 (qwa m hm p s hs e.expr) ?_|refine zD 300 ?_|(apply zB <;> intro hb <;> (try simp [-zd] at hb) <;> try (exfalso;omega))))
 all_goals refine Le.of_eq (congrArg AV.bool ?_)
 all_goals unfold canB qlen room
 ·have h:(s.at_.getD p 0 == e.frm)=false:=by simpa [-zd] using hb
  rw [h];rfl
 ·have h:(s.at_.getD p 0 == e.frm)=true:=by simp [-zd, *]
  have h0:e.act=0:=by assumption
  rw [h,hnx (.inl h0),za (by omega),za (by omega),za (by omega),za (by omega)];rfl
 ·have h:(s.at_.getD p 0 == e.frm)=true:=by simp [-zd, *]
  have h0:e.act=3:=by assumption
  rw [h,hnx (.inr h0),za (by omega),zb h0];rfl
 ·have h0:e.act=2:=by assumption
  have h:decide (((s.chans.getD e.chn.toNat []).length:Int)<(m.chans.getD e.chn.toNat ch0).room)=false:=zau (by omega)
  rw [zb h0,h,Bool.and_false]
 ·have h:(s.at_.getD p 0 == e.frm)=true:=by simp [-zd, *]
  have h0:e.act=2:=by assumption
  obtain ⟨h1,h2⟩:=hsv (by omega)
  have h3:decide (((s.chans.getD e.chn.toNat []).length:Int)<(m.chans.getD e.chn.toNat ch0).room)=true:=xn (by omega)
  rw [h,h1,h2,zb h0,h3,Bool.and_true];rfl
 ·have h:(s.at_.getD p 0 == e.frm)=true:=by simp [-zd, *]
  have h0:e.act=4:=by assumption
  obtain ⟨h1,h2⟩:=hsv (by omega)
  rw [h,h1,h2,za (by omega),za (by omega),zb h0,za (of_decide_eq_false h2)];rfl
 ·have h:(s.at_.getD p 0 == e.frm)=true:=by simp [-zd, *]
  have h0:e.act=5:=by assumption
  obtain ⟨h1,h2⟩:=hsv (by omega)
  rw [h,h1,h2,za (by omega),za (by omega),za (by omega),zb h0,za (of_decide_eq_false h2)];rfl
 ·have h:(s.at_.getD p 0 == e.frm)=true:=by simp [-zd, *]
  have h0:e.act=1:=by omega
  obtain ⟨h1,h2⟩:=hsv (by omega)
  rw [h,h1,h2,za (by omega),za (by omega),za (by omega),za (by omega),Bool.and_true];rfl
theorem qkz (m:Md) (hm:MOk m) (s:Stt) (hcl:s.chans.length=m.chans.length) (c:Nat) (hc:c<m.chans.length):Con Tryz.prog 82 [m.av,s.av,iv c] (.bool (qkw m s c)):=by
 refine zK {} 300 Tryz.func82 (fun c0 rdb=>?_)
 (repeat' ((conv=>whnf);first|refine Ob.auto ?_|fail))
 exact Le.refl _
theorem qla (m:Md) (hm:MOk m) (s:Stt) (hcl:s.chans.length=m.chans.length) (c:Nat) (hc:c<m.chans.length):Con Tryz.prog 83 [m.av,s.av,iv c] (.bool (qjg m s c)):=by
 refine zK {} 300 Tryz.func83 (fun c0 rdb=>?_)
 (repeat' ((conv=>whnf);first|refine zO ?_|refine Ob.auto ?_|refine zD 300 ?_|fail))
 exact Le.refl _
theorem jec (m:Md) (hm:MOk m) (s:Stt) (hf:fitsB m s=true) (hs:SSz s) (p:Nat) (hp:p<m.procs.length) {pl:Int} (he:∀ e∈qo m p,EdOk m.tree.length m.vars.length m.chans.length pl e) (hn:(qo m p).length≤40000) :
  Con Tryz.prog 121 [m.av,s.av,iv p] (.bool (qoy m s p)):=by
 refine zK {} 300 Tryz.func121 (fun c0 rdb=>?_)
 (repeat' ((conv=>whnf);first|refine Ob.auto ?_|fail))
 ((conv=>whnf);refine qm (fun _=>rfl) 300 1 (fun i:Nat=>[(16,iv i),(6,.bool false)]) (fun _=>[]) (fun i=>i≤(qo m p).length∧∀ j,j<i→canB m s p ((qo m p).getD j ed0)=false) (fun i=>(qo m p).length - i) (0) (⟨zv _,fun j hj=>absurd hj (zh j)⟩) qa qa (fun _=>rfl) (by kernel_rfl) ?_;(conv=>whnf))
 intro i hi
 (repeat' ((conv=>whnf);first|refine Ob.auto ?_|(apply zB <;> intro hb <;> (try simp [-zd] at hb) <;> try (exfalso;omega))))
 ·have hil:i<(qo m p).length:=by assumption
  ((conv=>whnf);refine qex (fun _=>rfl) 300 (qjk m hm s hf hs p hp ((qo m p).getD i ed0) (he _ (qk _ _ _ hil))) (by rfl) leA (by kernel_rfl) ?_)
  (repeat' ((conv=>whnf);first|refine Ob.auto ?_|(apply zB <;> intro hb <;> (try simp [-zd] at hb) <;> try (exfalso;omega))))
  ·exact Le.of_eq (congrArg AV.bool (List.any_eq_true.2 ⟨_,qk _ _ _ hil,by assumption⟩).symm)
  ·((conv=>whnf);refine ⟨i+1,⟨hil,qaf hi.2 (by assumption)⟩,⟨qa,qa⟩,⟨qa,qa⟩,?_⟩;(first|omega|(dsimp only;omega)|skip))
 ·have hil:(qo m p).length≤i:=by assumption
  refine Le.of_eq (congrArg AV.bool ?_)
  unfold qoy
  rw [Eq.comm,List.any_eq_false]
  intro e hme
  obtain ⟨j,hj,rfl⟩:=List.mem_iff_getElem.1 hme
  have:=hi.2 j (by omega)
  rw [zd,ze hj] at this
  simp only [zag] at this
  rw [this];decide
def qpn (m:Md) (s:Stt) (p e:Int):Bool:=fitsB m s && decide (0≤p∧p<m.procs.length∧0≤e∧e<(qo m p.toNat).length) && canB m s p.toNat ((qo m p.toNat).getD e.toNat ed0)
theorem jro (m:Md) (hm:MOk m) (s:Stt) (hs:SSz s) (he:∀ q∈m.procs,∀ e∈q.edges,EdOk m.tree.length m.vars.length m.chans.length q.places e) (p e:Int) :
  Con Tryz.prog 119 [m.av,s.av,iv p,iv e] (.bool (qpn m s p e)):=by
 refine zK {} 300 Tryz.func119 (fun c0 rdb=>?_)
 (repeat' ((conv=>whnf);first|refine Ob.auto ?_|refine zC 300 (qag m s hs) ?_|(apply zB <;> intro hb <;> (try simp [-zd] at hb) <;> try (exfalso;omega))))
 ·refine Le.of_eq (congrArg AV.bool ?_)
  have hb':¬ (fitsB m s=true∧0≤p∧p<m.procs.length∧0≤e∧e<(qo m p.toNat).length):=fun ⟨h1,h2,h3,h4,h5⟩=>by
   have h5':e<(m.procs.getD p.toNat pr0).edges.length:=h5
   rcases hb with (((hb|hb)|hb)|hb)|hb
   ·rw [h1] at hb;cases hb
   all_goals omega
  unfold qpn
  by_cases h1:fitsB m s=true
  ·rw [zau (fun h=>hb' ⟨h1,h⟩),Bool.and_false];rfl
  ·rw [Bool.not_eq_true] at h1
   rw [h1];rfl
 ·obtain ⟨⟨⟨⟨hf,h0⟩,h1⟩,h2⟩,h3⟩:=hb
  obtain ⟨P,rfl⟩:=zaf h0
  obtain ⟨E,rfl⟩:=zaf h2
  have hP:P<m.procs.length:=by omega
  have h3':(E:Int)<(qo m P).length:=h3
  have hE:E<(qo m P).length:=by omega
  (repeat' ((conv=>whnf);first|refine zA ?_|refine Ob.auto ?_|(refine CallY.con (qjk m hm s hf hs P hP ((qo m P).getD E ed0) (he _ (qk _ _ _ hP) _ (qk _ _ _ hE))) (by rfl) leA ?_)|(refine zQ 300 ?_)|fail))
  refine Le.of_eq (congrArg AV.bool ?_)
  unfold qpn
  rw [hf,zr,zr,xn ⟨by omega,by omega,by omega,by omega⟩]
  rfl
end Go.Proofs.YtikahnkkfkoglaaGreatDoor
end
section
namespace Go.Proofs.YtikahnkkfkoglaaGreatDoor
open Go Go.Sx Go.RowKit Go.St
set_option maxRecDepth 100000
set_option maxHeartbeats 4000000
theorem qtc (m:Md) (hM:ModOk m) (s:Stt) (hf:fitsB m s=true) (v:Mv):Con Tryz.prog 84 [m.av,s.av,v.av] (.bool (qah m s v)):=by
 have hs:=qco hM hf
 have hcl:=((jn m s).1 hf).1.2.2.1
 have hen:=jro m hM.ok s hs (fun q hq=>(hM.pr q hq).ed)
 obtain ⟨k,p,e,c⟩:=v
 by_cases hc:0≤c
 ·obtain ⟨c,rfl⟩:=zaf hc
  refine zK {} 300 Tryz.func84 (fun c0 rdb=>?_)
  (repeat' ((conv=>whnf);first|refine Ob.auto ?_|refine zG 300 (fun hg=>hen p e) ?_|refine zC 300 (qkz m hM.ok s hcl c (by omega)) ?_|refine zC 300 (qla m hM.ok s hcl c (by omega)) ?_|(apply zB <;> intro hb <;> (try simp [-List.getD_eq_getElem?_getD] at hb) <;> try (exfalso;omega))))
  all_goals refine Le.of_eq (congrArg AV.bool ?_)
  ·subst hb
   rw [Bool.eq_iff_iff];simp [qah,qpn,hf,and_assoc]
  all_goals (rw [Bool.eq_iff_iff];simp [qah, *])
  all_goals omega
 ·refine zK {} 300 Tryz.func84 (fun c0 rdb=>?_)
  (repeat' ((conv=>whnf);first|refine Ob.auto ?_|refine zG 300 (fun hg=>hen p e) ?_|(apply zB <;> intro hb <;> (try simp [-List.getD_eq_getElem?_getD] at hb) <;> try (exfalso;omega))))
  all_goals refine Le.of_eq (congrArg AV.bool ?_)
  ·subst hb
   rw [Bool.eq_iff_iff];simp [qah,qpn,hf,and_assoc]
  all_goals (rw [Bool.eq_iff_iff];simp [qah, *])
  all_goals omega
end Go.Proofs.YtikahnkkfkoglaaGreatDoor
end
