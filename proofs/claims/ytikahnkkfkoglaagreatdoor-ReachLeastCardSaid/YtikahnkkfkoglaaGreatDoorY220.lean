/- Some texts of the library, one behind the other. -/
import Derived.Test.YtikahnkkfkoglaaGreatDoorY219
import Derived.Shelf.SlLaysE0
import Derived.Test.YtikahnkkfkoglaaGreatDoorChecked
import Derived.Test.YtikahnkkfkoglaaGreatDoorY22
import Derived.Test.YtikahnkkfkoglaaGreatDoorY212
import Derived.Shelf.SlicesQ.Reverse
set_option linter.unusedSimpArgs false
set_option linter.unusedVariables false
section
namespace Go.Proofs.YtikahnkkfkoglaaGreatDoor
open List renaming getD_eq_getElem?_getD → zd
open Go Go.Sx Go.RowKit Go.St
set_option maxRecDepth 100000
set_option maxHeartbeats 8000000
theorem qxf {m:Md} {most:Int} {bad:Stt→Bool} {g:Fnd} {a:Int}:∀ (r:List Mv) (L:List Fnd),(qbk m most bad g a r L).2.1=true→(qbk m most bad g a r L).2.2=false
 | [],L,_=>rfl
 | v::r,L,h=>by
  rw [qbk] at h ⊢
  split at h
  ·cases h
  split at h
  ·cases h
  ·rename_i h1 h2
   rw [za h1,za h2]
   exact qxf r _ h
theorem qmr {m:Md} (hf:fitsB m (qw m)=true) {most:Int} (h:1≤most):LOk m most (qae m):=
 ⟨zbd,h,fun f hf'=>by rw [List.mem_singleton.1 hf'];exact hf,fun i hi=>by
  obtain rfl:i=0:=by have:i<1:=hi;omega
  exact ⟨show (-1:Int)≤-1 by decide,show (-1:Int)<((0:Nat):Int) by decide⟩,fun i hi=>by
  obtain rfl:i=0:=by have:i<1:=hi;omega
  exact ⟨show (0:Int)≤0 by decide,show (0:Int)≤((0:Nat):Int) by decide⟩⟩
theorem jsi (m:Md) (hM:ModOk m) (hf:fitsB m (qw m)=true) (most:Int) (hb:(qbv m most).2.2=false) :
  Con Tryz.prog 9 [m.av,iv most] (.agg [iv (qbv m most).1.length,.bool (qbv m most).2.1,.bool false,.nils]):=by
 have hbg:=jet m hM hf most
 have hms:=qpl most
 have hL0:=qmr hf hms.1
 have hbd:badB m (qw m)=false:=by
  cases e:badB m (qw m) with
  | false=>rfl
  | true=>unfold qbv at hb;rw [zb e] at hb;cases hb
 have hbt:=qxd m hM (qw m) hf false
 rw [hbd] at hbt
 have eR:qbv m most=qdr m (qds most) 20001 0 (qae m):=by unfold qbv;rw [za (by rw [hbd];decide)]
 rw [eR] at hb ⊢
 generalize hR:qdr m (qds most) 20001 0 (qae m)=R at hb ⊢
 generalize qds most=mo at *
 unfold qti kMap kRow at hbg
 refine zK {} 300 Tryz.func9 (fun c0 rdb=>?_)
 (repeat' ((conv=>whnf);first|refine zA ?_|refine zO ?_|refine Ob.auto ?_|refine zD 300 ?_|(apply zB <;> intro hb <;> (try simp [-zd] at hb) <;> try (exfalso;omega))|refine Ob.intro ?_ ?_))
 ((conv=>whnf);refine zT 300 [] (hbg) qa ?_)
 (repeat' ((conv=>whnf);first|refine zA ?_|refine zO ?_|refine Ob.auto ?_|(refine Ob.intro (by (first|exact ⟨rfl,rfl⟩|exact ⟨⟨rfl,rfl⟩,zbd⟩|exact ⟨⟨rfl,rfl⟩,xb _,Int.zero_lt_one⟩|exact ⟨by omega,by omega⟩)) ?_)|refine zD 300 ?_|(apply zB <;> intro hb <;> (try simp [-zd] at hb) <;> try (exfalso;omega))|refine Ob.intro ?_ ?_))
 ((conv=>whnf);refine zT 300 [0,6] (hbt) qa ?_)
 (repeat' ((conv=>whnf);first|refine zA ?_|refine zO ?_|refine Ob.auto ?_|(refine Ob.intro (by (first|exact ⟨rfl,rfl⟩|exact ⟨⟨rfl,rfl⟩,zbd⟩|exact ⟨⟨rfl,rfl⟩,xb _,Int.zero_lt_one⟩|exact ⟨by omega,by omega⟩)) ?_)|refine zD 300 ?_|(apply zB <;> intro hb <;> (try simp [-zd] at hb) <;> try (exfalso;omega))|refine Ob.intro ?_ ?_))
 ((conv=>whnf);refine qm (fun _=>rfl) 300 1 (fun g:Nat × List Fnd × Bool=>[(7,.fn 21 [.ptr 0 0,.ptr 6 0]),(9,iv g.1),(8,.bool g.2.2)]) (fun g=>[(4,.box 71 (m.cells++[iv mo,.own 5 0 0 g.2.1.length,.mapv 3])),(3,.box jh [.keys (qgc g.2.1)]),(5,.row [] 67 10 0 g.2.1.length (encL Fnd.cells Fnd.none g.2.1)),(6,.box 4 [.bool false])]) (fun g=>LOk m mo g.2.1∧(g.2.2=true→qdr m mo (20001 - g.1) g.1 g.2.1=R∧g.1≤g.2.1.length)∧(g.2.2=false→R=(g.2.1,false,false))) (fun g=>bif g.2.2 then 20002 - g.1 else 0) ((0,qae m,true)) (⟨hL0,fun _=>⟨hR,zv _⟩,fun h=>by cases h⟩) qa qa (fun _=>rfl) (by kernel_rfl) ?_;(conv=>whnf))
 rintro ⟨at_,L,w⟩ ⟨hL,hw1,hw0⟩
 simp only at hL hw1 hw0
 have hle:=hL.le
 have hne:=hL.ne
 cases w with
 | false=>
  have hRL:=hw0 rfl
  subst hRL
  (repeat' ((conv=>whnf);first|refine zA ?_|refine zO ?_|refine Ob.auto ?_|(refine Ob.intro (by (first|exact ⟨rfl,rfl⟩|exact ⟨by omega,by omega⟩)) ?_)|refine zD 300 ?_|(apply zB <;> intro hb <;> (try simp [-zd] at hb) <;> try (exfalso;omega))|refine Ob.intro ?_ ?_))
  exact Le.refl _
 | true=>
  obtain ⟨hex,hal⟩:=hw1 rfl
  obtain ⟨n,hn⟩:∃ n,20001 - at_=n+1:=⟨20000 - at_,by omega⟩
  rw [hn,qdr] at hex
  by_cases ha:at_<L.length
  ·rw [zb ha] at hex
   have hsp:=jeu m hM mo hms.2 L hL at_ ha
   have hok:=qpm hM (bad:=badB m) hL ha
   have htr:(jo m mo (badB m) at_ L).2.1=true→(jo m mo (badB m) at_ L).2.2=false:=qxf _ _
   have hws:(jo m mo (badB m) at_ L).2.2=false:=by
    by_cases h:(jo m mo (badB m) at_ L).2.1=true
    ·exact htr h
    ·rw [za h] at hex
     rw [hex];exact hb
   generalize jo m mo (badB m) at_ L=S at hsp hok hex hws
   obtain ⟨S1,S2,S3⟩:=S
   simp only at hok hex hws
   subst hws
   (repeat' ((conv=>whnf);first|refine zA ?_|refine zO ?_|refine Ob.auto ?_|(refine Ob.intro (by (first|exact ⟨rfl,rfl⟩|exact ⟨by omega,by omega⟩)) ?_)|refine zD 300 ?_|(apply zB <;> intro hb <;> (try simp [-zd] at hb) <;> try (exfalso;omega))|refine Ob.intro ?_ ?_))
   have hn':20001 - (at_+1)=n:=by omega
   ((conv=>whnf);refine zT 300 [4,3,5,0,6] (hsp) qa ?_)
   (repeat' ((conv=>whnf);first|refine zA ?_|refine zO ?_|refine Ob.auto ?_|(refine Ob.intro (by (first|exact ⟨rfl,rfl⟩|exact ⟨by omega,by omega⟩)) ?_)|refine zD 300 ?_|(apply zB <;> intro hb <;> (try simp [-zd] at hb) <;> try (exfalso;omega))|refine Ob.intro ?_ ?_))
   cases S2 with
   | true=>
    rw [zb rfl] at hex
    ((conv=>whnf);refine ⟨(at_+1,S1,true),⟨hok.1,(fun _=>⟨by rw [hn'];exact hex,by have:=hok.2;simp only;omega⟩),(fun h=>by cases h)⟩,⟨qa,qa⟩,⟨qa,qa⟩,?_⟩;(first|omega|(dsimp only;omega)|skip))
    all_goals (simp only [cond_true];omega)
   | false=>
    rw [za (by decide)] at hex
    ((conv=>whnf);refine ⟨(at_+1,S1,false),⟨hok.1,(fun h=>by cases h),(fun _=>hex.symm)⟩,⟨qa,qa⟩,⟨qa,qa⟩,?_⟩;(first|omega|(dsimp only;omega)|skip))
    all_goals (simp only [cond_true,cond_false];omega)
  ·rw [za ha] at hex
   subst hex
   (repeat' ((conv=>whnf);first|refine zA ?_|refine zO ?_|refine Ob.auto ?_|(refine Ob.intro (by (first|exact ⟨rfl,rfl⟩|exact ⟨by omega,by omega⟩)) ?_)|refine zD 300 ?_|(apply zB <;> intro hb <;> (try simp [-zd] at hb) <;> try (exfalso;omega))|refine Ob.intro ?_ ?_))
   exact Le.refl _
end Go.Proofs.YtikahnkkfkoglaaGreatDoor
end
section
namespace Go.Proofs
open Go.Shelf
def Tryz.revMv_ren:Go.Shelf.Ren:=⟨fun|35=>51|n=>n,fun|22=>34|23=>48|3=>3|4=>4|0=>0|n=>n,fun|n=>n⟩
theorem Tryz.revMv:Go.Proofs.SlLaysE0.n35 Tryz.prog Tryz.revMv_ren:={
 mixed:=by kernel_rfl
 f35:=⟨Tryz.f51.name,by decide,Tryz.func51.trans (congrArg some (by kernel_rfl))⟩
 t0:=Tryz.underlying0
 a0:=Tryz.isAgg0
 z0:=Tryz.sizeOf0
 v0:=Tryz.zeroValue0
 t3:=Tryz.underlying3
 a3:=Tryz.isAgg3
 z3:=Tryz.sizeOf3
 v3:=Tryz.zeroValue3
 t4:=Tryz.underlying4
 a4:=Tryz.isAgg4
 z4:=Tryz.sizeOf4
 v4:=Tryz.zeroValue4
 t22:=Tryz.underlying34
 a22:=Tryz.isAgg34
 z22:=Tryz.sizeOf34
 v22:=Tryz.zeroValue34 }
end Go.Proofs
end
section
namespace Go.Proofs.YtikahnkkfkoglaaGreatDoor
open Go Go.Sx Go.RowKit Go.St Go.Sort
instance:Inhabited Mv:=⟨{}⟩
def mvZ (v:Mv):List Int:=[v.kind,v.proc,v.edge,v.chn]
theorem jsp:encL (avZ mvZ) ({}:Mv)=encL Mv.cells {}:=rfl
theorem jsq (l:List Mv) (hl:l.length≤20000) :
  Trip Tryz.prog 51 [.own 0 0 0 l.length] [.row [] 48 4 0 l.length (encL Mv.cells {} l)] (.tup []) [(0,.row [] 48 4 0 l.length (encL Mv.cells {} l.reverse))] 1:=by
 rcases zak l.length with h|h
 ·have hl0:l=[]:=zba h
  subst hl0
  exact jso Tryz.func51 rfl (by kernel_rfl) fun w a cap=>AnyQ.slices_Reverse_empty Tryz.revMv a cap w
 ·have:=jsn (e:=48) (ep:=0) Tryz.func51 rfl (by kernel_rfl) 4 mvZ (fun _=>rfl) {} l l.reverse (by simp) h (fun w g lo cap hH hc=>by
   have h1:=AnyQ.slices_Reverse Tryz.revMv 4 Tryz.isAgg48 Tryz.sizeOf48 (encZ mvZ) (fun _=>rfl) (fun x v hv=>by
    simp only [encZ,mvZ,zab,List.map_nil,List.mem_cons,List.not_mem_nil,or_false] at hv
    rcases hv with rfl|rfl|rfl|rfl <;> rfl) g lo cap l.toArray w hH (by simp;omega)
   have e:l.toArray.size=l.length:=rfl
   rw [e] at h1
   rw [show l.reverse.toArray=l.toArray.reverse by simp]
   exact h1)
  rwa [jsp] at this
end Go.Proofs.YtikahnkkfkoglaaGreatDoor
end
section
namespace Go.Proofs.YtikahnkkfkoglaaGreatDoor
open List renaming getD_eq_getElem?_getD → zd
open Go Go.Sx Go.RowKit Go.St
set_option maxRecDepth 100000
set_option maxHeartbeats 4000000
def qbg (L:List Fnd) (i:Nat):List Mv:=qji L (i+1) i
theorem jex {m:Md} {most:Int} {L:List Fnd} (hL:LOk m most L):∀ (n i k:Nat),i<L.length→i<n→i<k→qji L n i=qji L k i
 | 0,i,k,_,h,_=>absurd h (zh _)
 | n+1,i,0,_,_,h=>absurd h (zh _)
 | n+1,i,k+1,hi,h1,h2=>by
  have hf:=hL.frm i hi
  rw [qji,qji]
  simp only [zr]
  split
  ·rename_i h0
   obtain ⟨j,hj⟩:∃ j:Nat,(L.getD i Fnd.none).frm=j:=⟨(L.getD i Fnd.none).frm.toNat,by omega⟩
   rw [hj] at hf ⊢
   rw [jex hL n j k (by omega) (by omega) (by omega)]
  ·rfl
theorem jey {m:Md} {most:Int} {L:List Fnd} (hL:LOk m most L) {i:Nat} (hi:i<L.length) (h:0≤(L.getD i Fnd.none).frm):qbg L i=(L.getD i Fnd.none).mv::qbg L (L.getD i Fnd.none).frm.toNat:=by
 have hf:=hL.frm i hi
 obtain ⟨j,hj⟩:∃ j:Nat,(L.getD i Fnd.none).frm=j:=⟨(L.getD i Fnd.none).frm.toNat,by omega⟩
 unfold qbg
 rw [qji]
 simp only [zr]
 rw [zb h,hj]
 simp only [zr]
 rw [jex hL i j (j+1) (by omega) (by omega) (by omega)]
theorem jez {L:List Fnd} {i:Nat} (h:¬ 0≤(L.getD i Fnd.none).frm):qbg L i=[]:=by
 unfold qbg
 rw [qji]
 simp only [zr]
 rw [za h]
theorem jsr (m:Md) (most:Int) (hm:most≤20000) (L:List Fnd) (hL:LOk m most L) (at_:Nat) (ha:at_<L.length) :
  Trip Tryz.prog 25 [.ptr 0 0,iv at_] [kBox m most L,kMap L,kRow L] (.own 3 0 0 (qbg L at_).length)
   [(0,kBox m most L),(1,kMap L),(2,kRow L),(3,.row [] 48 4 0 (qbg L at_).length (encL Mv.cells {} (qbg L at_).reverse))] 4:=by
 have hle:=hL.le
 unfold kBox kRow kMap
 refine zM {owns:=[(5,(48,4))]} 300 Tryz.func25 (fun c0 rdb mpb=>?_)
 (repeat' ((conv=>whnf);first|refine zA ?_|refine zO ?_|refine Ob.auto ?_|refine zI ?_|refine zD 300 ?_|(apply zB <;> intro hb <;> (try simp [-zd] at hb) <;> try (exfalso;omega))|refine Ob.intro ?_ ?_))
 refine jcb (fun _=>rfl) 300 1 (fun g:Nat × List Mv=>⟨[(6,.ptr 4 0),(5,.own 3 0 0 g.2.length),(4,.nils),(0,.ptr 0 0)],[(4,.box 67 (L.getD g.1 Fnd.none).cells),(3,.row [] 48 4 0 g.2.length (encL Mv.cells {} g.2)),(0,.box 71 (m.cells++[iv most,.own 2 0 0 L.length,.mapv 1])),(1,.box jh [.keys (qgc L)]),(2,.row [] 67 10 0 L.length (encL Fnd.cells Fnd.none L))],5⟩)
  (fun g=>g.1<L.length∧g.2++qbg L g.1=qbg L at_∧g.2.length+g.1≤at_) (fun g=>g.1) (at_,[]) ⟨ha,rfl,Nat.le_of_eq (zo _)⟩ (TurnR.of_sub ⟨?_,?_⟩ (by kernel_rfl)) (by kernel_rfl) ?_
 ·exact qa
 ·exact qa
 rintro ⟨i,acc⟩ ⟨hi,hacc,hal⟩
 simp only at hi hacc hal
 have hfr:=hL.frm i hi
 by_cases h0:0≤(L.getD i Fnd.none).frm
 ·rw [jey hL hi h0] at hacc
  (repeat' ((conv=>whnf);first|refine zA ?_|refine zO ?_|refine Ob.auto ?_|(refine Ob.intro (by (first|exact ⟨by omega,by omega⟩)) ?_)|refine zD 300 ?_|(apply zB <;> intro hb <;> (try simp [-zd] at hb) <;> try (exfalso;omega))|refine Ob.intro ?_ ?_))
  (conv=>whnf)
  refine ⟨((L.getD i Fnd.none).frm.toNat,acc++[(L.getD i Fnd.none).mv]),⟨by simp only;omega,by rw [← hacc,zn];rfl,by simp only [zg,zz];omega⟩,TurnR.ren 4 5 (by kernel_rfl) ⟨⟨Le.refl _,rfl⟩,⟨Le.of_eq (congrArg (AV.own 3 0 0) (by simp)),rfl⟩,⟨Le.refl _,rfl⟩,⟨Le.refl _,rfl⟩,trivial⟩ ⟨⟨SoLe.refl _,rfl⟩,⟨⟨⟨rfl,rfl,rfl⟩,rfl,by simp,qhv (enc:=Mv.cells) (d:={}) (x:=(L.getD i Fnd.none).mv) rfl⟩,rfl⟩,⟨SoLe.refl _,rfl⟩,⟨SoLe.refl _,rfl⟩,⟨SoLe.refl _,rfl⟩,trivial⟩,?_⟩
  simp only
  omega
 ·rw [jez h0,xl] at hacc
  subst hacc
  (repeat' ((conv=>whnf);first|refine zA ?_|refine zO ?_|refine Ob.auto ?_|(refine Ob.intro (by (first|exact ⟨by omega,by omega⟩)) ?_)|refine zD 300 ?_|(apply zB <;> intro hb <;> (try simp [-zd] at hb) <;> try (exfalso;omega))|refine Ob.intro ?_ ?_))
  ((conv=>whnf);refine zT 300 [3] (jsq (qbg L at_) (by omega)) qa ?_)
  (repeat' ((conv=>whnf);first|refine zA ?_|refine zO ?_|refine Ob.auto ?_|(refine Ob.intro (by (first|exact ⟨by omega,by omega⟩)) ?_)|refine zD 300 ?_|(apply zB <;> intro hb <;> (try simp [-zd] at hb) <;> try (exfalso;omega))|refine Ob.intro ?_ ?_))
  exact ⟨Le.refl _,qa⟩
set_option maxHeartbeats 8000000
def qms (R:List Fnd × (Bool × Bool)):List Mv:=if R.2.2=true then (qbg R.1 (R.1.length - 1)).reverse else []
theorem jss (m:Md) (hM:ModOk m) (hf:fitsB m (qw m)=true) (most:Int) :
  Con Tryz.prog 9 [m.av,iv most] (.agg [iv (qbv m most).1.length,.bool (qbv m most).2.1,.bool (qbv m most).2.2,qox (qms (qbv m most))]):=by
 have hbg:=jet m hM hf most
 have hms:=qpl most
 have hL0:=qmr hf hms.1
 have hbt:=qxd m hM (qw m) hf false
 unfold qbv
 generalize qds most=mo at *
 obtain ⟨R,hR⟩:∃ R,R=(if badB m (qw m)=true then (qae m,false,true) else qdr m mo 20001 0 (qae m)):=⟨_,rfl⟩
 rw [← hR]
 generalize badB m (qw m)=b0 at hbt hR
 unfold qti kMap kRow at hbg
 have fin:∀ (L:List Fnd) (w:Bool),LOk m mo L→R=(L,w,true)→Trip Tryz.prog 25 [.ptr 0 0,iv ((L.length:Int) - 1)] [kBox m mo L,kMap L,kRow L] (.own 3 0 0 (qbg L (L.length - 1)).length)
   [(0,kBox m mo L),(1,kMap L),(2,kRow L),(3,.row [] 48 4 0 (qbg L (L.length - 1)).length (encL Mv.cells {} (qms R)))] 4:=fun L w hL e=>by
  subst e
  have hne:=hL.ne
  have:=jsr m mo hms.2 L hL (L.length - 1) (by omega)
  have e:((L.length - 1:Nat):Int)=(L.length:Int) - 1:=by omega
  rw [e] at this
  exact this
 unfold kBox kMap kRow at fin
 refine zK {} 300 Tryz.func9 (fun c0 rdb=>?_)
 (repeat' ((conv=>whnf);first|refine zA ?_|refine zO ?_|refine Ob.auto ?_|refine zD 300 ?_|(apply zB <;> intro hb <;> (try simp [-zd] at hb) <;> try (exfalso;omega))|refine Ob.intro ?_ ?_))
 ((conv=>whnf);refine zT 300 [] (hbg) qa ?_)
 (repeat' ((conv=>whnf);first|refine zA ?_|refine zO ?_|refine Ob.auto ?_|(refine Ob.intro (by (first|exact ⟨rfl,rfl⟩|exact ⟨⟨rfl,rfl⟩,zbd⟩|exact ⟨⟨rfl,rfl⟩,xb _,Int.zero_lt_one⟩|exact ⟨by omega,by omega⟩)) ?_)|refine zD 300 ?_|(apply zB <;> intro hb <;> (try simp [-zd] at hb) <;> try (exfalso;omega))|refine Ob.intro ?_ ?_))
 ((conv=>whnf);refine zT 300 [0,6] (hbt) qa ?_)
 (repeat' ((conv=>whnf);first|refine zA ?_|refine zO ?_|refine Ob.auto ?_|(refine Ob.intro (by (first|exact ⟨rfl,rfl⟩|exact ⟨⟨rfl,rfl⟩,zbd⟩|exact ⟨⟨rfl,rfl⟩,xb _,Int.zero_lt_one⟩|exact ⟨by omega,by omega⟩)) ?_)|refine zD 300 ?_|(apply zB <;> intro hb <;> (try simp [-zd] at hb) <;> try (exfalso;omega))|refine Ob.intro ?_ ?_))
 ((conv=>whnf);refine qm (fun _=>rfl) 300 1 (fun g:Nat × List Fnd × Bool × Bool=>[(7,.fn 21 [.ptr 0 0,.ptr 6 0]),(9,iv g.1),(8,.bool g.2.2.1)]) (fun g=>[(4,.box 71 (m.cells++[iv mo,.own 5 0 0 g.2.1.length,.mapv 3])),(3,.box jh [.keys (qgc g.2.1)]),(5,.row [] 67 10 0 g.2.1.length (encL Fnd.cells Fnd.none g.2.1)),(6,.box 4 [.bool g.2.2.2])]) (fun g=>LOk m mo g.2.1∧(g.2.2.1=true→g.2.2.2=false∧qdr m mo (20001 - g.1) g.1 g.2.1=R∧g.1≤g.2.1.length)∧(g.2.2.1=false→R=(g.2.1,false,g.2.2.2))) (fun g=>bif g.2.2.1 then 20002 - g.1 else 0) ((0,qae m,!b0,b0)) (⟨hL0,fun h=>by cases b0 <;> simp_all,fun h=>by cases b0 <;> simp_all⟩) qa qa (fun _=>rfl) (by kernel_rfl) ?_;(conv=>whnf))
 rintro ⟨at_,L,w,b⟩ ⟨hL,hw1,hw0⟩
 simp only at hL hw1 hw0
 have hle:=hL.le
 have hne:=hL.ne
 cases w with
 | false=>
  have hRL:=hw0 rfl
  have hfin:=fin L false hL
  cases b with
  | false=>
   clear hfin fin
   subst hRL
   (repeat' ((conv=>whnf);first|refine zA ?_|refine zO ?_|refine Ob.auto ?_|(refine Ob.intro (by (first|exact ⟨rfl,rfl⟩|exact ⟨by omega,by omega⟩)) ?_)|refine zD 300 ?_|(apply zB <;> intro hb <;> (try simp [-zd] at hb) <;> try (exfalso;omega))|refine Ob.intro ?_ ?_))
   exact Le.agg ⟨Le.refl _,Le.refl _,Le.refl _,Le.nils _ _,trivial⟩
  | true=>
   have hpt:=hfin hRL
   clear hfin fin hw1 hw0 hR
   subst hRL
   (repeat' ((conv=>whnf);first|refine zA ?_|refine zO ?_|refine Ob.auto ?_|(refine Ob.intro (by (first|exact ⟨rfl,rfl⟩|exact ⟨show (-9223372036854775808:Int)≤(L.length:Int) - 1 by omega,show (L.length:Int) - 1≤9223372036854775807 by omega⟩|exact ⟨by omega,by omega⟩)) ?_)|refine zD 300 ?_|(apply zB <;> intro hb <;> (try simp [-zd] at hb) <;> try (exfalso;omega))|refine Ob.intro ?_ ?_))
   ((conv=>whnf);refine zT 300 [4,3,5] (hpt) qa ?_)
   (repeat' ((conv=>whnf);first|refine zA ?_|refine zO ?_|refine Ob.auto ?_|(refine Ob.intro (by (first|exact ⟨rfl,rfl⟩|exact ⟨by omega,by omega⟩)) ?_)|refine zD 300 ?_|(apply zB <;> intro hb <;> (try simp [-zd] at hb) <;> try (exfalso;omega))|refine Ob.intro ?_ ?_))
   have e:(qms (L,false,true)).length=(qbg L (L.length - 1)).length:=by
    unfold qms
    rw [zb rfl,List.length_reverse]
   exact Le.agg ⟨Le.refl _,Le.refl _,Le.refl _,Le.of_eq (show AV.slc 4 (qbg L (L.length - 1)).length (encL Mv.cells {} (qms (L,false,true)))=qox _ by unfold qox slcL;rw [e]),trivial⟩
 | true=>
  obtain ⟨hb0,hex,hal⟩:=hw1 rfl
  subst hb0
  obtain ⟨n,hn⟩:∃ n,20001 - at_=n+1:=⟨20000 - at_,by omega⟩
  rw [hn,qdr] at hex
  by_cases ha:at_<L.length
  ·rw [zb ha] at hex
   have hsp:=jeu m hM mo hms.2 L hL at_ ha
   have hok:=qpm hM (bad:=badB m) hL ha
   have htr:(jo m mo (badB m) at_ L).2.1=true→(jo m mo (badB m) at_ L).2.2=false:=qxf _ _
   generalize jo m mo (badB m) at_ L=S at hsp hok hex htr
   obtain ⟨S1,S2,S3⟩:=S
   simp only at hok hex htr
   clear fin hR hw0 hw1
   (repeat' ((conv=>whnf);first|refine zA ?_|refine zO ?_|refine Ob.auto ?_|(refine Ob.intro (by (first|exact ⟨rfl,rfl⟩|exact ⟨by omega,by omega⟩)) ?_)|refine zD 300 ?_|(apply zB <;> intro hb <;> (try simp [-zd] at hb) <;> try (exfalso;omega))|refine Ob.intro ?_ ?_))
   have hn':20001 - (at_+1)=n:=by omega
   ((conv=>whnf);refine zT 300 [4,3,5,0,6] (hsp) qa ?_)
   (repeat' ((conv=>whnf);first|refine zA ?_|refine zO ?_|refine Ob.auto ?_|(refine Ob.intro (by (first|exact ⟨rfl,rfl⟩|exact ⟨by omega,by omega⟩)) ?_)|refine zD 300 ?_|(apply zB <;> intro hb <;> (try simp [-zd] at hb) <;> try (exfalso;omega))|refine Ob.intro ?_ ?_))
   cases S2 with
   | true=>
    rw [zb rfl] at hex
    ((conv=>whnf);refine ⟨(at_+1,S1,true,S3),⟨hok.1,(fun _=>⟨htr rfl,by rw [hn'];exact hex,by have:=hok.2;simp only;omega⟩),(fun h=>by cases h)⟩,⟨qa,qa⟩,⟨qa,qa⟩,?_⟩;(first|omega|(dsimp only;omega)|skip))
    all_goals (simp only [cond_true];omega)
   | false=>
    rw [za (by decide)] at hex
    ((conv=>whnf);refine ⟨(at_+1,S1,false,S3),⟨hok.1,(fun h=>by cases h),(fun _=>hex.symm)⟩,⟨qa,qa⟩,⟨qa,qa⟩,?_⟩;(first|omega|(dsimp only;omega)|skip))
    all_goals (simp only [cond_true,cond_false];omega)
  ·rw [za ha] at hex
   clear fin
   subst hex
   (repeat' ((conv=>whnf);first|refine zA ?_|refine zO ?_|refine Ob.auto ?_|(refine Ob.intro (by (first|exact ⟨rfl,rfl⟩|exact ⟨by omega,by omega⟩)) ?_)|refine zD 300 ?_|(apply zB <;> intro hb <;> (try simp [-zd] at hb) <;> try (exfalso;omega))|refine Ob.intro ?_ ?_))
   exact Le.agg ⟨Le.refl _,Le.refl _,Le.refl _,Le.nils _ _,trivial⟩
end Go.Proofs.YtikahnkkfkoglaaGreatDoor
end
