/- Some texts of the library, one behind the other. -/
import Derived.Test.YtikahnkkfkoglaaGreatDoorY119
import Derived.Test.YtikahnkkfkoglaaGreatDoorY12
import Derived.Test.YtikahnkkfkoglaaGreatDoorY114
import Derived.Shelf.SlicesQ.Reverse
import Derived.Test.YtikahnkkfkoglaaGreatDoorY117
import Derived.Test.YtikahnkkfkoglaaGreatDoorY118
import Derived.Test.YtikahnkkfkoglaaGreatDoorY116
set_option linter.unusedSimpArgs false
set_option linter.unusedVariables false
section
namespace Go.Proofs.YtikahnkkfkoglaaGreatDoor
open Go Go.Sx Go.RowKit Go.St Go.Sort
instance:Inhabited Mv:=⟨{}⟩
def mvZ (v:Mv):List Int:=[v.kind,v.proc,v.edge,v.chn]
theorem jqg:encL (avZ mvZ) ({}:Mv)=encL Mv.cells {}:=rfl
theorem jqh (l:List Mv) (hl:l.length≤20000) :
  Trip Tryz.prog 51 [.own 0 0 0 l.length] [.row [] 48 4 0 l.length (encL Mv.cells {} l)] (.tup []) [(0,.row [] 48 4 0 l.length (encL Mv.cells {} l.reverse))] 1:=by
 rcases zaf l.length with h|h
 ·have hl0:l=[]:=zaw h
  subst hl0
  exact jqf Tryz.func51 rfl (by kernel_rfl) fun w a cap=>AnyQ.slices_Reverse_empty Tryz.revMv a cap w
 ·have:=jqe (e:=48) (ep:=0) Tryz.func51 rfl (by kernel_rfl) 4 mvZ (fun _=>rfl) {} l l.reverse (by simp) h (fun w g lo cap hH hc=>by
   have h1:=AnyQ.slices_Reverse Tryz.revMv 4 Tryz.isAgg48 Tryz.sizeOf48 (encZ mvZ) (fun _=>rfl) (fun x v hv=>by
    simp only [encZ,mvZ,zac,List.map_nil,List.mem_cons,List.not_mem_nil,or_false] at hv
    rcases hv with rfl|rfl|rfl|rfl <;> rfl) g lo cap l.toArray w hH (by simp;omega)
   have e:l.toArray.size=l.length:=rfl
   rw [e] at h1
   rw [show l.reverse.toArray=l.toArray.reverse by simp]
   exact h1)
  rwa [jqg] at this
end Go.Proofs.YtikahnkkfkoglaaGreatDoor
end
section
namespace Go.Proofs.YtikahnkkfkoglaaGreatDoor
open List renaming getD_eq_getElem?_getD → zd
open Go Go.Sx Go.RowKit Go.St
set_option maxRecDepth 100000
set_option maxHeartbeats 4000000
def qde (L:List Fnd) (i:Nat):List Mv:=qip L (i+1) i
theorem jdj {m:Md} {most:Int} {L:List Fnd} (hL:LOk m most L):∀ (n i k:Nat),i<L.length→i<n→i<k→qip L n i=qip L k i
 | 0,i,k,_,h,_=>absurd h (zj _)
 | n+1,i,0,_,_,h=>absurd h (zj _)
 | n+1,i,k+1,hi,h1,h2=>by
  have hf:=hL.frm i hi
  rw [qip,qip]
  simp only [zy]
  split
  ·rename_i h0
   obtain ⟨j,hj⟩:∃ j:Nat,(L.getD i Fnd.none).frm=j:=⟨(L.getD i Fnd.none).frm.toNat,by omega⟩
   rw [hj] at hf ⊢
   rw [jdj hL n j k (by omega) (by omega) (by omega)]
  ·rfl
theorem jqi {m:Md} {most:Int} {L:List Fnd} (hL:LOk m most L) {i:Nat} (hi:i<L.length) (h:0≤(L.getD i Fnd.none).frm):qde L i=(L.getD i Fnd.none).mv::qde L (L.getD i Fnd.none).frm.toNat:=by
 have hf:=hL.frm i hi
 obtain ⟨j,hj⟩:∃ j:Nat,(L.getD i Fnd.none).frm=j:=⟨(L.getD i Fnd.none).frm.toNat,by omega⟩
 unfold qde
 rw [qip]
 simp only [zy]
 rw [zb h,hj]
 simp only [zy]
 rw [jdj hL i j (j+1) (by omega) (by omega) (by omega)]
theorem jqj {L:List Fnd} {i:Nat} (h:¬ 0≤(L.getD i Fnd.none).frm):qde L i=[]:=by
 unfold qde
 rw [qip]
 simp only [zy]
 rw [za h]
theorem jqk (m:Md) (most:Int) (hm:most≤20000) (L:List Fnd) (hL:LOk m most L) (at_:Nat) (ha:at_<L.length) :
  Trip Tryz.prog 25 [.ptr 0 0,iv at_] [kBox m most L,kMap L,kRow L] (.own 3 0 0 (qde L at_).length)
   [(0,kBox m most L),(1,kMap L),(2,kRow L),(3,.row [] 48 4 0 (qde L at_).length (encL Mv.cells {} (qde L at_).reverse))] 4:=by
 have hle:=hL.le
 unfold kBox kRow kMap
 refine zM {owns:=[(5,(48,4))]} 300 Tryz.func25 (fun c0 rdb mpb=>?_)
 (repeat' ((conv=>whnf);first|refine zA ?_|refine zO ?_|refine Ob.auto ?_|refine zI ?_|refine zD 300 ?_|(apply zB <;> intro hb <;> (try simp [-zd] at hb) <;> try (exfalso;omega))|refine Ob.intro ?_ ?_))
 refine jav (fun _=>rfl) 300 1 (fun g:Nat × List Mv=>⟨[(6,.ptr 4 0),(5,.own 3 0 0 g.2.length),(4,.nils),(0,.ptr 0 0)],[(4,.box 67 (L.getD g.1 Fnd.none).cells),(3,.row [] 48 4 0 g.2.length (encL Mv.cells {} g.2)),(0,.box 71 (m.cells++[iv most,.own 2 0 0 L.length,.mapv 1])),(1,.box qz [.keys (qey L)]),(2,.row [] 67 10 0 L.length (encL Fnd.cells Fnd.none L))],5⟩)
  (fun g=>g.1<L.length∧g.2++qde L g.1=qde L at_∧g.2.length+g.1≤at_) (fun g=>g.1) (at_,[]) ⟨ha,rfl,Nat.le_of_eq (zo _)⟩ (TurnR.of_sub ⟨?_,?_⟩ (by kernel_rfl)) (by kernel_rfl) ?_
 ·exact qa
 ·exact qa
 rintro ⟨i,acc⟩ ⟨hi,hacc,hal⟩
 simp only at hi hacc hal
 have hfr:=hL.frm i hi
 by_cases h0:0≤(L.getD i Fnd.none).frm
 ·rw [jqi hL hi h0] at hacc
  (repeat' ((conv=>whnf);first|refine zA ?_|refine zO ?_|refine Ob.auto ?_|(refine Ob.intro (by (first|exact ⟨by omega,by omega⟩)) ?_)|refine zD 300 ?_|(apply zB <;> intro hb <;> (try simp [-zd] at hb) <;> try (exfalso;omega))|refine Ob.intro ?_ ?_))
  (conv=>whnf)
  refine ⟨((L.getD i Fnd.none).frm.toNat,acc++[(L.getD i Fnd.none).mv]),⟨by simp only;omega,by rw [← hacc,zz];rfl,by simp only [zg,xf];omega⟩,TurnR.ren 4 5 (by kernel_rfl) ⟨⟨Le.refl _,rfl⟩,⟨Le.of_eq (congrArg (AV.own 3 0 0) (by simp)),rfl⟩,⟨Le.refl _,rfl⟩,⟨Le.refl _,rfl⟩,trivial⟩ ⟨⟨SoLe.refl _,rfl⟩,⟨⟨⟨rfl,rfl,rfl⟩,rfl,by simp,qnf (enc:=Mv.cells) (d:={}) (x:=(L.getD i Fnd.none).mv) rfl⟩,rfl⟩,⟨SoLe.refl _,rfl⟩,⟨SoLe.refl _,rfl⟩,⟨SoLe.refl _,rfl⟩,trivial⟩,?_⟩
  simp only
  omega
 ·rw [jqj h0,zan] at hacc
  subst hacc
  (repeat' ((conv=>whnf);first|refine zA ?_|refine zO ?_|refine Ob.auto ?_|(refine Ob.intro (by (first|exact ⟨by omega,by omega⟩)) ?_)|refine zD 300 ?_|(apply zB <;> intro hb <;> (try simp [-zd] at hb) <;> try (exfalso;omega))|refine Ob.intro ?_ ?_))
  ((conv=>whnf);refine zT 300 [3] (jqh (qde L at_) (by omega)) qa ?_)
  (repeat' ((conv=>whnf);first|refine zA ?_|refine zO ?_|refine Ob.auto ?_|(refine Ob.intro (by (first|exact ⟨by omega,by omega⟩)) ?_)|refine zD 300 ?_|(apply zB <;> intro hb <;> (try simp [-zd] at hb) <;> try (exfalso;omega))|refine Ob.intro ?_ ?_))
  exact ⟨Le.refl _,qa⟩
set_option maxHeartbeats 8000000
def qog (R:List Fnd × (Bool × Bool)):List Mv:=if R.2.2=true then (qde R.1 (R.1.length - 1)).reverse else []
theorem jdk (m:Md) (hM:ModOk m) (hf:fitsB m (jj m)=true) (most:Int) :
  Con Tryz.prog 9 [m.av,iv most] (.agg [iv (qbg m most).1.length,.bool (qbg m most).2.1,.bool (qbg m most).2.2,qrn (qog (qbg m most))]):=by
 have hbg:=qvw m hM hf most
 have hms:=qru most
 have hL0:=qwc hf hms.1
 have hbt:=qvx m hM (jj m) hf false
 unfold qbg
 generalize qch most=mo at *
 obtain ⟨R,hR⟩:∃ R,R=(if badB m (jj m)=true then (qcc m,false,true) else qby m mo 20001 0 (qcc m)):=⟨_,rfl⟩
 rw [← hR]
 generalize badB m (jj m)=b0 at hbt hR
 unfold qod kMap kRow at hbg
 have fin:∀ (L:List Fnd) (w:Bool),LOk m mo L→R=(L,w,true)→Trip Tryz.prog 25 [.ptr 0 0,iv ((L.length:Int) - 1)] [kBox m mo L,kMap L,kRow L] (.own 3 0 0 (qde L (L.length - 1)).length)
   [(0,kBox m mo L),(1,kMap L),(2,kRow L),(3,.row [] 48 4 0 (qde L (L.length - 1)).length (encL Mv.cells {} (qog R)))] 4:=fun L w hL e=>by
  subst e
  have hne:=hL.ne
  have:=jqk m mo hms.2 L hL (L.length - 1) (by omega)
  have e:((L.length - 1:Nat):Int)=(L.length:Int) - 1:=by omega
  rw [e] at this
  exact this
 unfold kBox kMap kRow at fin
 refine zK {} 300 Tryz.func9 (fun c0 rdb=>?_)
 (repeat' ((conv=>whnf);first|refine zA ?_|refine zO ?_|refine Ob.auto ?_|refine zD 300 ?_|(apply zB <;> intro hb <;> (try simp [-zd] at hb) <;> try (exfalso;omega))|refine Ob.intro ?_ ?_))
 ((conv=>whnf);refine zT 300 [] (hbg) qa ?_)
 (repeat' ((conv=>whnf);first|refine zA ?_|refine zO ?_|refine Ob.auto ?_|(refine Ob.intro (by (first|exact ⟨rfl,rfl⟩|exact ⟨⟨rfl,rfl⟩,zbg⟩|exact ⟨⟨rfl,rfl⟩,zw _,Int.zero_lt_one⟩|exact ⟨by omega,by omega⟩)) ?_)|refine zD 300 ?_|(apply zB <;> intro hb <;> (try simp [-zd] at hb) <;> try (exfalso;omega))|refine Ob.intro ?_ ?_))
 ((conv=>whnf);refine zT 300 [0,6] (hbt) qa ?_)
 (repeat' ((conv=>whnf);first|refine zA ?_|refine zO ?_|refine Ob.auto ?_|(refine Ob.intro (by (first|exact ⟨rfl,rfl⟩|exact ⟨⟨rfl,rfl⟩,zbg⟩|exact ⟨⟨rfl,rfl⟩,zw _,Int.zero_lt_one⟩|exact ⟨by omega,by omega⟩)) ?_)|refine zD 300 ?_|(apply zB <;> intro hb <;> (try simp [-zd] at hb) <;> try (exfalso;omega))|refine Ob.intro ?_ ?_))
 ((conv=>whnf);refine qo (fun _=>rfl) 300 1 (fun g:Nat × List Fnd × Bool × Bool=>[(7,.fn 21 [.ptr 0 0,.ptr 6 0]),(9,iv g.1),(8,.bool g.2.2.1)]) (fun g=>[(4,.box 71 (m.cells++[iv mo,.own 5 0 0 g.2.1.length,.mapv 3])),(3,.box qz [.keys (qey g.2.1)]),(5,.row [] 67 10 0 g.2.1.length (encL Fnd.cells Fnd.none g.2.1)),(6,.box 4 [.bool g.2.2.2])]) (fun g=>LOk m mo g.2.1∧(g.2.2.1=true→g.2.2.2=false∧qby m mo (20001 - g.1) g.1 g.2.1=R∧g.1≤g.2.1.length)∧(g.2.2.1=false→R=(g.2.1,false,g.2.2.2))) (fun g=>bif g.2.2.1 then 20002 - g.1 else 0) ((0,qcc m,!b0,b0)) (⟨hL0,fun h=>by cases b0 <;> simp_all,fun h=>by cases b0 <;> simp_all⟩) qa qa (fun _=>rfl) (by kernel_rfl) ?_;(conv=>whnf))
 rintro ⟨at_,L,w,b⟩ ⟨hL,hw1,hw0⟩
 simp only at hL hw1 hw0
 have hle:=hL.le
 have hne:=hL.ne
 cases w with
 | false=>
  have hRL:=hw0 rfl
  have hfin:=fin L false hL
  cases b with
  | false=>
   clear hfin fin
   subst hRL
   (repeat' ((conv=>whnf);first|refine zA ?_|refine zO ?_|refine Ob.auto ?_|(refine Ob.intro (by (first|exact ⟨rfl,rfl⟩|exact ⟨by omega,by omega⟩)) ?_)|refine zD 300 ?_|(apply zB <;> intro hb <;> (try simp [-zd] at hb) <;> try (exfalso;omega))|refine Ob.intro ?_ ?_))
   exact Le.agg ⟨Le.refl _,Le.refl _,Le.refl _,Le.nils _ _,trivial⟩
  | true=>
   have hpt:=hfin hRL
   clear hfin fin hw1 hw0 hR
   subst hRL
   (repeat' ((conv=>whnf);first|refine zA ?_|refine zO ?_|refine Ob.auto ?_|(refine Ob.intro (by (first|exact ⟨rfl,rfl⟩|exact ⟨show (-9223372036854775808:Int)≤(L.length:Int) - 1 by omega,show (L.length:Int) - 1≤9223372036854775807 by omega⟩|exact ⟨by omega,by omega⟩)) ?_)|refine zD 300 ?_|(apply zB <;> intro hb <;> (try simp [-zd] at hb) <;> try (exfalso;omega))|refine Ob.intro ?_ ?_))
   ((conv=>whnf);refine zT 300 [4,3,5] (hpt) qa ?_)
   (repeat' ((conv=>whnf);first|refine zA ?_|refine zO ?_|refine Ob.auto ?_|(refine Ob.intro (by (first|exact ⟨rfl,rfl⟩|exact ⟨by omega,by omega⟩)) ?_)|refine zD 300 ?_|(apply zB <;> intro hb <;> (try simp [-zd] at hb) <;> try (exfalso;omega))|refine Ob.intro ?_ ?_))
   have e:(qog (L,false,true)).length=(qde L (L.length - 1)).length:=by
    unfold qog
    rw [zb rfl,List.length_reverse]
   exact Le.agg ⟨Le.refl _,Le.refl _,Le.refl _,Le.of_eq (show AV.slc 4 (qde L (L.length - 1)).length (encL Mv.cells {} (qog (L,false,true)))=qrn _ by unfold qrn slcL;rw [e]),trivial⟩
 | true=>
  obtain ⟨hb0,hex,hal⟩:=hw1 rfl
  subst hb0
  obtain ⟨n,hn⟩:∃ n,20001 - at_=n+1:=⟨20000 - at_,by omega⟩
  rw [hn,qby] at hex
  by_cases ha:at_<L.length
  ·rw [zb ha] at hex
   have hsp:=jdd m hM mo hms.2 L hL at_ ha
   have hok:=qvo hM (bad:=badB m) hL ha
   have htr:(qag m mo (badB m) at_ L).2.1=true→(qag m mo (badB m) at_ L).2.2=false:=qwb _ _
   generalize qag m mo (badB m) at_ L=S at hsp hok hex htr
   obtain ⟨S1,S2,S3⟩:=S
   simp only at hok hex htr
   clear fin hR hw0 hw1
   (repeat' ((conv=>whnf);first|refine zA ?_|refine zO ?_|refine Ob.auto ?_|(refine Ob.intro (by (first|exact ⟨rfl,rfl⟩|exact ⟨by omega,by omega⟩)) ?_)|refine zD 300 ?_|(apply zB <;> intro hb <;> (try simp [-zd] at hb) <;> try (exfalso;omega))|refine Ob.intro ?_ ?_))
   have hn':20001 - (at_+1)=n:=by omega
   ((conv=>whnf);refine zT 300 [4,3,5,0,6] (hsp) qa ?_)
   (repeat' ((conv=>whnf);first|refine zA ?_|refine zO ?_|refine Ob.auto ?_|(refine Ob.intro (by (first|exact ⟨rfl,rfl⟩|exact ⟨by omega,by omega⟩)) ?_)|refine zD 300 ?_|(apply zB <;> intro hb <;> (try simp [-zd] at hb) <;> try (exfalso;omega))|refine Ob.intro ?_ ?_))
   cases S2 with
   | true=>
    rw [zb rfl] at hex
    ((conv=>whnf);refine ⟨(at_+1,S1,true,S3),⟨hok.1,(fun _=>⟨htr rfl,by rw [hn'];exact hex,by have:=hok.2;simp only;omega⟩),(fun h=>by cases h)⟩,⟨qa,qa⟩,⟨qa,qa⟩,?_⟩;(first|omega|(dsimp only;omega)|skip))
    all_goals (simp only [cond_true];omega)
   | false=>
    rw [za (by decide)] at hex
    ((conv=>whnf);refine ⟨(at_+1,S1,false,S3),⟨hok.1,(fun h=>by cases h),(fun _=>hex.symm)⟩,⟨qa,qa⟩,⟨qa,qa⟩,?_⟩;(first|omega|(dsimp only;omega)|skip))
    all_goals (simp only [cond_true,cond_false];omega)
  ·rw [za ha] at hex
   clear fin
   subst hex
   (repeat' ((conv=>whnf);first|refine zA ?_|refine zO ?_|refine Ob.auto ?_|(refine Ob.intro (by (first|exact ⟨rfl,rfl⟩|exact ⟨by omega,by omega⟩)) ?_)|refine zD 300 ?_|(apply zB <;> intro hb <;> (try simp [-zd] at hb) <;> try (exfalso;omega))|refine Ob.intro ?_ ?_))
   exact Le.agg ⟨Le.refl _,Le.refl _,Le.refl _,Le.nils _ _,trivial⟩
set_option maxHeartbeats 4000000
theorem jql (m:Md) (hM:ModOk m) (most:Int) (hm:most≤20000) (L:List Fnd) (hL:LOk m most L) (at_:Nat) (ha:at_<L.length) :
  Trip Tryz.prog 23 [.ptr 0 0,iv at_,.bfn 24 0,.fn 34 []] [kBox m most L,kMap L,kRow L]
   (.bool (qag m most (fun _=>false) at_ L).2.1)
   [(0,kBox m most (qag m most (fun _=>false) at_ L).1),(1,kMap (qag m most (fun _=>false) at_ L).1),(2,kRow (qag m most (fun _=>false) at_ L).1)] 3:=by
 have hle:=hL.le
 have hmem:L.getD at_ Fnd.none∈L:=by
  rw [zd,ze ha]
  exact xt ha
 have hfit:=hL.fit _ hmem
 have hdep:=hL.dep at_ ha
 have hml:=jct hM (L.getD at_ Fnd.none).s
 unfold qag
 have hmv:=qvv m hM (L.getD at_ Fnd.none).s hfit
 unfold kBox kRow kMap
 refine zM {} 300 Tryz.func23 (fun c0 rdb mpb=>?_)
 (repeat' ((conv=>whnf);first|refine zA ?_|refine zO ?_|refine Ob.auto ?_|refine zI ?_|refine zD 300 ?_|(apply zB <;> intro hb <;> (try simp [-zd] at hb) <;> try (exfalso;omega))|refine Ob.intro ?_ ?_))
 (repeat' ((conv=>whnf);first|refine zA ?_|refine zO ?_|refine Ob.auto ?_|refine zI ?_|refine zC 300 (hmv) ?_|refine zG 300 (fun hg=>hmv) ?_|(refine CallY.con (hmv) (by rfl) leA ?_)|(refine CallZ.con (fun hg=>hmv) jn (by rfl) ?_)|(refine ql (fun _=>rfl) 300 (hmv) qc (by (repeat' (first|exact trivial|exact Le.refl _|(refine And.intro ?_ ?_))) <;> fail) (by rfl) (by kernel_rfl) ?_)|(refine qw (fun _=>rfl) 300 (fun hg=>hmv) (fun hg=>qc) (fun hg=>(by (repeat' (first|exact trivial|exact Le.refl _|exact Le.cnd hg|(refine And.intro ?_ ?_))) <;> fail)) (by rfl) (by kernel_rfl) ?_)|refine zD 300 ?_|(refine zQ 300 ?_)|(apply zB <;> intro hb <;> (try simp [-zd] at hb) <;> try (exfalso;omega))|refine Ob.intro ?_ ?_))
 generalize hR:jz m most (fun _=>false) (L.getD at_ Fnd.none) (at_:Int) (jb m (L.getD at_ Fnd.none).s) L=R
 ((conv=>whnf);refine qo (fun _=>rfl) 300 1 (fun g:Nat × List Fnd=>[(30,iv g.1)]) (fun g=>[(0,.box 71 (m.cells++[iv most,.own 2 0 0 g.2.length,.mapv 1])),(1,.box qz [.keys (qey g.2)]),(2,.row [] 67 10 0 g.2.length (encL Fnd.cells Fnd.none g.2))]) (fun g=>g.1≤(jb m (L.getD at_ Fnd.none).s).length∧LOk m most g.2∧at_<g.2.length∧jz m most (fun _=>false) (L.getD at_ Fnd.none) (at_:Int) ((jb m (L.getD at_ Fnd.none).s).drop g.1) g.2=R) (fun g=>(jb m (L.getD at_ Fnd.none).s).length - g.1) ((0,L)) (⟨xb _,hL,ha,hR⟩) qa qa (fun _=>rfl) (by kernel_rfl) ?_;(conv=>whnf))
 rintro ⟨i,K⟩ ⟨hi,hK,hak,hsp⟩
 simp only at hi hK hak hsp
 have hKle:=hK.le
 by_cases hil:i<(jb m (L.getD at_ Fnd.none).s).length
 ·have hv:qbp m (L.getD at_ Fnd.none).s ((jb m (L.getD at_ Fnd.none).s).getD i {})=true:=mem_movesF.1 (qm _ i {} hil)
  have hd1:inR .i64 ((L.getD at_ Fnd.none).depth+1):=⟨by show (-9223372036854775808:Int)≤_;omega,by show _≤(9223372036854775807:Int);omega⟩
  have hdo:=jdb m hM (L.getD at_ Fnd.none).s ((jb m (L.getD at_ Fnd.none).s).getD i {}) hfit hv
  have hs':=qvn hM hfit hv
  rw [qhj _ i {} hil,jz] at hsp
  have hadd:=qvp m hM most K (by omega) ⟨qac m (L.getD at_ Fnd.none).s ((jb m (L.getD at_ Fnd.none).s).getD i {}),at_,(jb m (L.getD at_ Fnd.none).s).getD i {},(L.getD at_ Fnd.none).depth+1⟩ hs'
  (repeat' ((conv=>whnf);first|refine zA ?_|refine zO ?_|refine Ob.auto ?_|refine zI ?_|refine zD 300 ?_|(apply zB <;> intro hb <;> (try simp [-zd] at hb) <;> try (exfalso;omega))|refine Ob.intro ?_ ?_))
  (repeat' ((conv=>whnf);first|refine zO ?_|refine Ob.auto ?_|(refine Ob.intro (by (first|exact ⟨by omega,by omega⟩|exact hd1)) ?_)|refine zC 300 (hdo) ?_|refine zG 300 (fun hg=>hdo) ?_|(refine CallY.con (hdo) (by rfl) leA ?_)|(refine CallZ.con (fun hg=>hdo) jn (by rfl) ?_)|(refine ql (fun _=>rfl) 300 (hdo) qc (by (repeat' (first|exact trivial|exact Le.refl _|(refine And.intro ?_ ?_))) <;> fail) (by rfl) (by kernel_rfl) ?_)|(refine qw (fun _=>rfl) 300 (fun hg=>hdo) (fun hg=>qc) (fun hg=>(by (repeat' (first|exact trivial|exact Le.refl _|exact Le.cnd hg|(refine And.intro ?_ ?_))) <;> fail)) (by rfl) (by kernel_rfl) ?_)|refine zD 300 ?_|(refine qay (fun _=>rfl) (by kernel_rfl) 300 ?_)|(apply zB <;> intro hb <;> (try simp [-zd] at hb) <;> try (exfalso;omega))|refine Ob.intro ?_ ?_))
  ((conv=>whnf);refine AltG.far 14 [0,3,4] (by kernel_rfl) farA (EndG.go ?_))
  (repeat' ((conv=>whnf);first|refine zA ?_|refine zO ?_|refine Ob.auto ?_|(refine Ob.intro (by (first|exact ⟨by omega,by omega⟩|exact hd1)) ?_)|refine zD 300 ?_|(apply zB <;> intro hb <;> (try simp [-zd] at hb) <;> try (exfalso;omega))|refine Ob.intro ?_ ?_))
  ((conv=>whnf);refine zT 300 [0,1,2] (hadd) qa ?_)
  generalize hA:addF most K ⟨qac m (L.getD at_ Fnd.none).s ((jb m (L.getD at_ Fnd.none).s).getD i {}),at_,(jb m (L.getD at_ Fnd.none).s).getD i {},(L.getD at_ Fnd.none).depth+1⟩=A at hsp
  have hKA:LOk m most A.1:=by rw [← hA];exact hK.add hs' (by simp only;omega) (by simp only;omega)
  have hAl:K.length≤A.1.length:=by rw [← hA];exact qoa _ _ _
  (repeat' ((conv=>whnf);first|refine zA ?_|refine zO ?_|refine Ob.auto ?_|(refine Ob.intro (by (first|exact ⟨by omega,by omega⟩|exact hd1)) ?_)|refine zD 300 ?_|(apply zB <;> intro hb <;> (try simp [-zd] at hb) <;> try (exfalso;omega))|refine Ob.intro ?_ ?_))
  ·have hA0:A.2=false:=by assumption
   rw [zb hA0] at hsp
   have hA1:A.1=K:=by
    rw [← hA] at hA0 ⊢
    rcases qrv most K ⟨qac m (L.getD at_ Fnd.none).s ((jb m (L.getD at_ Fnd.none).s).getD i {}),at_,(jb m (L.getD at_ Fnd.none).s).getD i {},(L.getD at_ Fnd.none).depth+1⟩ with e|⟨_,e1,e2⟩
    ·exact e
    ·unfold addF at hA0
     rw [za (by rw [e1];decide),za e2] at hA0
     cases hA0
   subst hsp
   obtain ⟨A1,A2⟩:=A
   simp only at hA1
   subst hA1
   exact ⟨Le.refl _,qa⟩
  ·have hA0:A.2=true:=by assumption
   have hlt:K.length<A.1.length:=by assumption
   have hg:decide ((K.length:Int)<(A.1.length:Int))=true:=xl (by omega)
   refine OpG.fcall rfl rfl hg hg rfl ?_
   have hnv:=jpm (qac m (L.getD at_ Fnd.none).s ((jb m (L.getD at_ Fnd.none).s).getD i {}))
   ((conv=>whnf);refine qef (fun _=>rfl) 300 (hnv) (by rfl) leA (by kernel_rfl) ?_)
   rw [za (by rw [hA0];decide),za (fun h=>by cases h.2)] at hsp
   (repeat' ((conv=>whnf);first|refine zA ?_|refine zO ?_|refine Ob.auto ?_|(refine Ob.intro (by (first|exact ⟨by omega,by omega⟩|exact hd1)) ?_)|refine zD 300 ?_|(apply zB <;> intro hb <;> (try simp [-zd] at hb) <;> try (exfalso;omega))|refine Ob.intro ?_ ?_))
   ((conv=>whnf);refine ⟨(i+1,A.1),⟨hil,hKA,xw hak hAl,hsp⟩,⟨qa,qa⟩,⟨qa,qa⟩,?_⟩;(first|omega|(dsimp only;omega)|skip))
  ·have hA0:A.2=true:=by assumption
   have hle1:A.1.length≤K.length:=by assumption
   rw [za (by rw [hA0];decide),za (fun h=>by omega)] at hsp
   ((conv=>whnf);refine ⟨(i+1,A.1),⟨hil,hKA,xw hak hAl,hsp⟩,⟨qa,qa⟩,⟨qa,qa⟩,?_⟩;(first|omega|(dsimp only;omega)|skip))
 ·obtain rfl:i=(jb m (L.getD at_ Fnd.none).s).length:=by omega
  rw [List.drop_length,jz] at hsp
  subst hsp
  (repeat' ((conv=>whnf);first|refine zA ?_|refine zO ?_|refine Ob.auto ?_|refine zI ?_|refine zD 300 ?_|(apply zB <;> intro hb <;> (try simp [-zd] at hb) <;> try (exfalso;omega))|refine Ob.intro ?_ ?_))
  exact ⟨Le.refl _,qa⟩
end Go.Proofs.YtikahnkkfkoglaaGreatDoor
end
section
namespace Go.Proofs.YtikahnkkfkoglaaGreatDoor
open Go Go.Sx Go.St
def qgl (m:Md) (steps most:Int):Int × Bool:=if steps<0 then (0,true) else if (qka m steps most).2=true then ((qka m steps most).1.length,true) else (0,false)
end Go.Proofs.YtikahnkkfkoglaaGreatDoor
end
