/- Some texts of the library, one behind the other. -/
import Derived.Test.YtikahnkkfkoglaaGreatDoorQ38
import Derived.Test.YtikahnkkfkoglaaGreatDoorQ39
import Derived.Test.YtikahnkkfkoglaaGreatDoorQ37
import Derived.Test.YtikahnkkfkoglaaGreatDoorQ2
import Derived.Test.YtikahnkkfkoglaaGreatDoorQ16
set_option linter.unusedSimpArgs false
set_option linter.unusedVariables false
section
namespace Go.Proofs.YtikahnkkfkoglaaGreatDoor
open List renaming getD_eq_getElem?_getD → zd
open Go Go.Sx Go.RowKit Go.St
set_option maxRecDepth 100000
set_option maxHeartbeats 4000000
theorem jve (m:Md) (hM:ModOk m) (most:Int) (hm:most≤20000) (L:List Fnd) (hL:LOk m most L) (at_:Nat) (ha:at_<L.length) :
  Trip Tryz.prog 23 [.ptr 0 0,iv at_,.bfn 24 0,.fn 21 [.ptr 3 0,.ptr 4 0]] [kBox m most L,kMap L,kRow L,.box 29 m.cells,.box 4 [.bool false]]
   (.bool (qbi m most (badB m) at_ L).2.1)
   [(0,kBox m most (qbi m most (badB m) at_ L).1),(1,kMap (qbi m most (badB m) at_ L).1),(2,kRow (qbi m most (badB m) at_ L).1),(3,.box 29 m.cells),(4,.box 4 [.bool (qbi m most (badB m) at_ L).2.2])] 5:=by
 have hle:=hL.le
 have hmem:L.getD at_ Fnd.none∈L:=by
  rw [zd,ze ha]
  exact xt ha
 have hfit:=hL.fit _ hmem
 have hdep:=hL.dep at_ ha
 have hml:=jhq hM (L.getD at_ Fnd.none).s
 unfold qbi
 have hmv:=qxy m hM (L.getD at_ Fnd.none).s hfit
 unfold kBox kRow kMap
 refine zM {} 300 Tryz.func23 (fun c0 rdb mpb=>?_)
 (repeat' ((conv=>whnf);first|refine zA ?_|refine zO ?_|refine Ob.auto ?_|refine zI ?_|refine zD 300 ?_|(apply zB <;> intro hb <;> (try simp [-zd] at hb) <;> try (exfalso;omega))|refine Ob.intro ?_ ?_))
 (repeat' ((conv=>whnf);first|refine zA ?_|refine zO ?_|refine Ob.auto ?_|refine zI ?_|refine zC 300 (hmv) ?_|refine zG 300 (fun hg=>hmv) ?_|(refine CallY.con (hmv) (by rfl) leA ?_)|(refine CallZ.con (fun hg=>hmv) jp (by rfl) ?_)|(refine qm (fun _=>rfl) 300 (hmv) qc (by (repeat' (first|exact trivial|exact Le.refl _|(refine And.intro ?_ ?_))) <;> fail) (by rfl) (by kernel_rfl) ?_)|(refine jb (fun _=>rfl) 300 (fun hg=>hmv) (fun hg=>qc) (fun hg=>(by (repeat' (first|exact trivial|exact Le.refl _|exact Le.cnd hg|(refine And.intro ?_ ?_))) <;> fail)) (by rfl) (by kernel_rfl) ?_)|refine zD 300 ?_|(refine zQ 300 ?_)|(apply zB <;> intro hb <;> (try simp [-zd] at hb) <;> try (exfalso;omega))|refine Ob.intro ?_ ?_))
 generalize hR:qdf m most (badB m) (L.getD at_ Fnd.none) (at_:Int) (ji m (L.getD at_ Fnd.none).s) L=R
 ((conv=>whnf);refine qt (fun _=>rfl) 300 1 (fun g:Nat × List Fnd=>[(30,iv g.1)]) (fun g=>[(0,.box 71 (m.cells++[iv most,.own 2 0 0 g.2.length,.mapv 1])),(1,.box jc [.keys (qgs g.2)]),(2,.row [] 67 10 0 g.2.length (encL Fnd.cells Fnd.none g.2)),(4,.box 4 [.bool false])]) (fun g=>g.1≤(ji m (L.getD at_ Fnd.none).s).length∧LOk m most g.2∧at_<g.2.length∧qdf m most (badB m) (L.getD at_ Fnd.none) (at_:Int) ((ji m (L.getD at_ Fnd.none).s).drop g.1) g.2=R) (fun g=>(ji m (L.getD at_ Fnd.none).s).length - g.1) ((0,L)) (⟨zw _,hL,ha,hR⟩) qa qa (fun _=>rfl) (by kernel_rfl) ?_;(conv=>whnf))
 rintro ⟨i,K⟩ ⟨hi,hK,hak,hsp⟩
 simp only at hi hK hak hsp
 have hKle:=hK.le
 by_cases hil:i<(ji m (L.getD at_ Fnd.none).s).length
 ·have hv:qbr m (L.getD at_ Fnd.none).s ((ji m (L.getD at_ Fnd.none).s).getD i {})=true:=mem_movesF.1 (qr _ i {} hil)
  have hd1:inR .i64 ((L.getD at_ Fnd.none).depth+1):=⟨by show (-9223372036854775808:Int)≤_;omega,by show _≤(9223372036854775807:Int);omega⟩
  have hdo:=jhy m hM (L.getD at_ Fnd.none).s ((ji m (L.getD at_ Fnd.none).s).getD i {}) hfit hv
  have hs':=qvp hM hfit hv
  rw [qma _ i {} hil,qdf] at hsp
  have hadd:=qxs m hM most K (by omega) ⟨qbh m (L.getD at_ Fnd.none).s ((ji m (L.getD at_ Fnd.none).s).getD i {}),at_,(ji m (L.getD at_ Fnd.none).s).getD i {},(L.getD at_ Fnd.none).depth+1⟩ hs'
  (repeat' ((conv=>whnf);first|refine zA ?_|refine zO ?_|refine Ob.auto ?_|refine zI ?_|refine zD 300 ?_|(apply zB <;> intro hb <;> (try simp [-zd] at hb) <;> try (exfalso;omega))|refine Ob.intro ?_ ?_))
  (repeat' ((conv=>whnf);first|refine zO ?_|refine Ob.auto ?_|(refine Ob.intro (by (first|exact ⟨by omega,by omega⟩|exact hd1)) ?_)|refine zC 300 (hdo) ?_|refine zG 300 (fun hg=>hdo) ?_|(refine CallY.con (hdo) (by rfl) leA ?_)|(refine CallZ.con (fun hg=>hdo) jp (by rfl) ?_)|(refine qm (fun _=>rfl) 300 (hdo) qc (by (repeat' (first|exact trivial|exact Le.refl _|(refine And.intro ?_ ?_))) <;> fail) (by rfl) (by kernel_rfl) ?_)|(refine jb (fun _=>rfl) 300 (fun hg=>hdo) (fun hg=>qc) (fun hg=>(by (repeat' (first|exact trivial|exact Le.refl _|exact Le.cnd hg|(refine And.intro ?_ ?_))) <;> fail)) (by rfl) (by kernel_rfl) ?_)|refine zD 300 ?_|(refine qax (fun _=>rfl) (by kernel_rfl) 300 ?_)|(apply zB <;> intro hb <;> (try simp [-zd] at hb) <;> try (exfalso;omega))|refine Ob.intro ?_ ?_))
  ((conv=>whnf);refine AltG.far 14 [0,5,6] (by kernel_rfl) farA (EndG.go ?_))
  (repeat' ((conv=>whnf);first|refine zA ?_|refine zO ?_|refine Ob.auto ?_|(refine Ob.intro (by (first|exact ⟨by omega,by omega⟩|exact hd1)) ?_)|refine zD 300 ?_|(apply zB <;> intro hb <;> (try simp [-zd] at hb) <;> try (exfalso;omega))|refine Ob.intro ?_ ?_))
  ((conv=>whnf);refine zT 300 [0,1,2] (hadd) qa ?_)
  generalize hA:addF most K ⟨qbh m (L.getD at_ Fnd.none).s ((ji m (L.getD at_ Fnd.none).s).getD i {}),at_,(ji m (L.getD at_ Fnd.none).s).getD i {},(L.getD at_ Fnd.none).depth+1⟩=A at hsp
  have hKA:LOk m most A.1:=by rw [← hA];exact hK.add hs' (by simp only;omega) (by simp only;omega)
  have hAl:K.length≤A.1.length:=by rw [← hA];exact qvs _ _ _
  (repeat' ((conv=>whnf);first|refine zA ?_|refine zO ?_|refine Ob.auto ?_|(refine Ob.intro (by (first|exact ⟨by omega,by omega⟩|exact hd1)) ?_)|refine zD 300 ?_|(apply zB <;> intro hb <;> (try simp [-zd] at hb) <;> try (exfalso;omega))|refine Ob.intro ?_ ?_))
  ·have hA0:A.2=false:=by assumption
   rw [zb hA0] at hsp
   have hA1:A.1=K:=by
    rw [← hA] at hA0 ⊢
    rcases qrx most K ⟨qbh m (L.getD at_ Fnd.none).s ((ji m (L.getD at_ Fnd.none).s).getD i {}),at_,(ji m (L.getD at_ Fnd.none).s).getD i {},(L.getD at_ Fnd.none).depth+1⟩ with e|⟨_,e1,e2⟩
    ·exact e
    ·unfold addF at hA0
     rw [za (by rw [e1];decide),za e2] at hA0
     cases hA0
   subst hsp
   obtain ⟨A1,A2⟩:=A
   simp only at hA1
   subst hA1
   exact ⟨Le.refl _,qa⟩
  ·have hA0:A.2=true:=by assumption
   have hlt:K.length<A.1.length:=by assumption
   have hg:decide ((K.length:Int)<(A.1.length:Int))=true:=xn (by omega)
   refine OpG.fcall rfl rfl hg hg rfl ?_
   have hbt:=jhp m hM (qbh m (L.getD at_ Fnd.none).s ((ji m (L.getD at_ Fnd.none).s).getD i {})) hs' false
   generalize badB m (qbh m (L.getD at_ Fnd.none).s ((ji m (L.getD at_ Fnd.none).s).getD i {}))=bb at hbt hsp
   ((conv=>whnf);refine zT 300 [3,4] (hbt) qa ?_)
   rw [za (by rw [hA0];decide)] at hsp
   (repeat' ((conv=>whnf);first|refine zA ?_|refine zO ?_|refine Ob.auto ?_|(refine Ob.intro (by (first|exact ⟨by omega,by omega⟩|exact hd1)) ?_)|refine zD 300 ?_|(apply zB <;> intro hb <;> (try simp [-zd] at hb) <;> try (exfalso;omega))|refine Ob.intro ?_ ?_))
   ·have hb1:bb=true:=hb.2
    subst hb1
    rw [zb ⟨hlt,rfl⟩] at hsp
    subst hsp
    exact ⟨Le.refl _,qa⟩
   ·have hb1:bb=false:=hb hlt
    subst hb1
    rw [za (fun h=>by cases h.2)] at hsp
    ((conv=>whnf);refine ⟨(i+1,A.1),⟨hil,hKA,xu hak hAl,hsp⟩,⟨qa,qa⟩,⟨qa,qa⟩,?_⟩;(first|omega|(dsimp only;omega)|skip))
  ·have hA0:A.2=true:=by assumption
   have hle1:A.1.length≤K.length:=by assumption
   rw [za (by rw [hA0];decide),za (fun h=>by omega)] at hsp
   ((conv=>whnf);refine ⟨(i+1,A.1),⟨hil,hKA,xu hak hAl,hsp⟩,⟨qa,qa⟩,⟨qa,qa⟩,?_⟩;(first|omega|(dsimp only;omega)|skip))
 ·obtain rfl:i=(ji m (L.getD at_ Fnd.none).s).length:=by omega
  rw [List.drop_length,qdf] at hsp
  subst hsp
  (repeat' ((conv=>whnf);first|refine zA ?_|refine zO ?_|refine Ob.auto ?_|refine zI ?_|refine zD 300 ?_|(apply zB <;> intro hb <;> (try simp [-zd] at hb) <;> try (exfalso;omega))|refine Ob.intro ?_ ?_))
  exact ⟨Le.refl _,qa⟩
end Go.Proofs.YtikahnkkfkoglaaGreatDoor
end
section
namespace Go.Proofs.YtikahnkkfkoglaaGreatDoor
open Go Go.Sx Go.St

end Go.Proofs.YtikahnkkfkoglaaGreatDoor
end
section
namespace Go.Proofs.YtikahnkkfkoglaaGreatDoor
open List renaming getD_eq_getElem?_getD → zd
open Go Go.Sx Go.RowKit Go.St
set_option maxRecDepth 100000
set_option maxHeartbeats 8000000
theorem jhz {m:Md} {most:Int} {bad:Stt→Bool} {g:Fnd} {a:Int}:∀ (r:List Mv) (L:List Fnd),(qdf m most bad g a r L).2.1=true→(qdf m most bad g a r L).2.2=false
 | [],L,_=>rfl
 | v::r,L,h=>by
  rw [qdf] at h ⊢
  split at h
  ·cases h
  split at h
  ·cases h
  ·rename_i h1 h2
   rw [za h1,za h2]
   exact jhz r _ h
theorem jia {m:Md} (hf:fitsB m (ju m)=true) {most:Int} (h:1≤most):LOk m most (qel m):=
 ⟨Nat.zero_lt_one,h,fun f hf'=>by rw [List.mem_singleton.1 hf'];exact hf,fun i hi=>by
  obtain rfl:i=0:=by have:i<1:=hi;omega
  exact ⟨show (-1:Int)≤-1 by decide,show (-1:Int)<((0:Nat):Int) by decide⟩,fun i hi=>by
  obtain rfl:i=0:=by have:i<1:=hi;omega
  exact ⟨show (0:Int)≤0 by decide,show (0:Int)≤((0:Nat):Int) by decide⟩⟩
theorem qeo (m:Md) (hM:ModOk m) (hf:fitsB m (ju m)=true) (most:Int) (hb:(jd m most).2.2=false) :
  Con Tryz.prog 9 [m.av,iv most] (.agg [iv (jd m most).1.length,.bool (jd m most).2.1,.bool false,.nils]):=by
 have hbg:=jho m hM hf most
 have hms:=qvr most
 have hL0:=jia hf hms.1
 have hbd:badB m (ju m)=false:=by
  cases e:badB m (ju m) with
  | false=>rfl
  | true=>unfold jd at hb;rw [zb e] at hb;cases hb
 have hbt:=jhp m hM (ju m) hf false
 rw [hbd] at hbt
 have eR:jd m most=qmh m (qfg most) 20001 0 (qel m):=by unfold jd;rw [za (by rw [hbd];decide)]
 rw [eR] at hb ⊢
 generalize hR:qmh m (qfg most) 20001 0 (qel m)=R at hb ⊢
 generalize qfg most=mo at *
 unfold qsl kMap kRow at hbg
 refine zK {} 300 Tryz.func9 (fun c0 rdb=>?_)
 (repeat' ((conv=>whnf);first|refine zA ?_|refine zO ?_|refine Ob.auto ?_|refine zD 300 ?_|(apply zB <;> intro hb <;> (try simp [-zd] at hb) <;> try (exfalso;omega))|refine Ob.intro ?_ ?_))
 ((conv=>whnf);refine zT 300 [] (hbg) qa ?_)
 (repeat' ((conv=>whnf);first|refine zA ?_|refine zO ?_|refine Ob.auto ?_|(refine Ob.intro (by (first|exact ⟨rfl,rfl⟩|exact ⟨⟨rfl,rfl⟩,Nat.zero_lt_one⟩|exact ⟨⟨rfl,rfl⟩,xa _,Int.zero_lt_one⟩|exact ⟨by omega,by omega⟩)) ?_)|refine zD 300 ?_|(apply zB <;> intro hb <;> (try simp [-zd] at hb) <;> try (exfalso;omega))|refine Ob.intro ?_ ?_))
 ((conv=>whnf);refine zT 300 [0,6] (hbt) qa ?_)
 (repeat' ((conv=>whnf);first|refine zA ?_|refine zO ?_|refine Ob.auto ?_|(refine Ob.intro (by (first|exact ⟨rfl,rfl⟩|exact ⟨⟨rfl,rfl⟩,Nat.zero_lt_one⟩|exact ⟨⟨rfl,rfl⟩,xa _,Int.zero_lt_one⟩|exact ⟨by omega,by omega⟩)) ?_)|refine zD 300 ?_|(apply zB <;> intro hb <;> (try simp [-zd] at hb) <;> try (exfalso;omega))|refine Ob.intro ?_ ?_))
 ((conv=>whnf);refine qt (fun _=>rfl) 300 1 (fun g:Nat × List Fnd × Bool=>[(7,.fn 21 [.ptr 0 0,.ptr 6 0]),(9,iv g.1),(8,.bool g.2.2)]) (fun g=>[(4,.box 71 (m.cells++[iv mo,.own 5 0 0 g.2.1.length,.mapv 3])),(3,.box jc [.keys (qgs g.2.1)]),(5,.row [] 67 10 0 g.2.1.length (encL Fnd.cells Fnd.none g.2.1)),(6,.box 4 [.bool false])]) (fun g=>LOk m mo g.2.1∧(g.2.2=true→qmh m mo (20001 - g.1) g.1 g.2.1=R∧g.1≤g.2.1.length)∧(g.2.2=false→R=(g.2.1,false,false))) (fun g=>bif g.2.2 then 20002 - g.1 else 0) ((0,qel m,true)) (⟨hL0,fun _=>⟨hR,zw _⟩,fun h=>by cases h⟩) qa qa (fun _=>rfl) (by kernel_rfl) ?_;(conv=>whnf))
 rintro ⟨at_,L,w⟩ ⟨hL,hw1,hw0⟩
 simp only at hL hw1 hw0
 have hle:=hL.le
 have hne:=hL.ne
 cases w with
 | false=>
  have hRL:=hw0 rfl
  subst hRL
  (repeat' ((conv=>whnf);first|refine zA ?_|refine zO ?_|refine Ob.auto ?_|(refine Ob.intro (by (first|exact ⟨rfl,rfl⟩|exact ⟨by omega,by omega⟩)) ?_)|refine zD 300 ?_|(apply zB <;> intro hb <;> (try simp [-zd] at hb) <;> try (exfalso;omega))|refine Ob.intro ?_ ?_))
  exact Le.refl _
 | true=>
  obtain ⟨hex,hal⟩:=hw1 rfl
  obtain ⟨n,hn⟩:∃ n,20001 - at_=n+1:=⟨20000 - at_,by omega⟩
  rw [hn,qmh] at hex
  by_cases ha:at_<L.length
  ·rw [zb ha] at hex
   have hsp:=jve m hM mo hms.2 L hL at_ ha
   have hok:=jdp hM (bad:=badB m) hL ha
   have htr:(qbi m mo (badB m) at_ L).2.1=true→(qbi m mo (badB m) at_ L).2.2=false:=jhz _ _
   have hws:(qbi m mo (badB m) at_ L).2.2=false:=by
    by_cases h:(qbi m mo (badB m) at_ L).2.1=true
    ·exact htr h
    ·rw [za h] at hex
     rw [hex];exact hb
   generalize qbi m mo (badB m) at_ L=S at hsp hok hex hws
   obtain ⟨S1,S2,S3⟩:=S
   simp only at hok hex hws
   subst hws
   (repeat' ((conv=>whnf);first|refine zA ?_|refine zO ?_|refine Ob.auto ?_|(refine Ob.intro (by (first|exact ⟨rfl,rfl⟩|exact ⟨by omega,by omega⟩)) ?_)|refine zD 300 ?_|(apply zB <;> intro hb <;> (try simp [-zd] at hb) <;> try (exfalso;omega))|refine Ob.intro ?_ ?_))
   have hn':20001 - (at_+1)=n:=by omega
   ((conv=>whnf);refine zT 300 [4,3,5,0,6] (hsp) qa ?_)
   (repeat' ((conv=>whnf);first|refine zA ?_|refine zO ?_|refine Ob.auto ?_|(refine Ob.intro (by (first|exact ⟨rfl,rfl⟩|exact ⟨by omega,by omega⟩)) ?_)|refine zD 300 ?_|(apply zB <;> intro hb <;> (try simp [-zd] at hb) <;> try (exfalso;omega))|refine Ob.intro ?_ ?_))
   cases S2 with
   | true=>
    rw [zb rfl] at hex
    ((conv=>whnf);refine ⟨(at_+1,S1,true),⟨hok.1,(fun _=>⟨by rw [hn'];exact hex,by have:=hok.2;simp only;omega⟩),(fun h=>by cases h)⟩,⟨qa,qa⟩,⟨qa,qa⟩,?_⟩;(first|omega|(dsimp only;omega)|skip))
    all_goals (simp only [cond_true];omega)
   | false=>
    rw [za (by decide)] at hex
    ((conv=>whnf);refine ⟨(at_+1,S1,false),⟨hok.1,(fun h=>by cases h),(fun _=>hex.symm)⟩,⟨qa,qa⟩,⟨qa,qa⟩,?_⟩;(first|omega|(dsimp only;omega)|skip))
    all_goals (simp only [cond_true,cond_false];omega)
  ·rw [za ha] at hex
   subst hex
   (repeat' ((conv=>whnf);first|refine zA ?_|refine zO ?_|refine Ob.auto ?_|(refine Ob.intro (by (first|exact ⟨rfl,rfl⟩|exact ⟨by omega,by omega⟩)) ?_)|refine zD 300 ?_|(apply zB <;> intro hb <;> (try simp [-zd] at hb) <;> try (exfalso;omega))|refine Ob.intro ?_ ?_))
   exact Le.refl _
end Go.Proofs.YtikahnkkfkoglaaGreatDoor
end
