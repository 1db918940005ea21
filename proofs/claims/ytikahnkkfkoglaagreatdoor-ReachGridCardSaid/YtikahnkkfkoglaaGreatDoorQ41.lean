/- Some texts of the library, one behind the other. -/
import Derived.Test.YtikahnkkfkoglaaGreatDoorQ38
import Derived.Test.YtikahnkkfkoglaaGreatDoorQ39
import Derived.Test.YtikahnkkfkoglaaGreatDoorQ37
import Derived.Test.YtikahnkkfkoglaaGreatDoorQ2
import Derived.Test.YtikahnkkfkoglaaGreatDoorQ40
import Derived.Test.YtikahnkkfkoglaaGreatDoorQ16
set_option linter.unusedSimpArgs false
set_option linter.unusedVariables false
section
namespace Go.Proofs.YtikahnkkfkoglaaGreatDoor
open List renaming getD_eq_getElem?_getD → zd
open Go Go.Sx Go.RowKit Go.St
set_option maxRecDepth 100000
set_option maxHeartbeats 4000000
theorem jvf (m:Md) (hM:ModOk m) (most:Int) (hm:most≤20000) (L:List Fnd) (hL:LOk m most L) (at_:Nat) (ha:at_<L.length) :
  Trip Tryz.prog 23 [.ptr 0 0,iv at_,.bfn 24 0,.fn 34 []] [kBox m most L,kMap L,kRow L]
   (.bool (qbi m most (fun _=>false) at_ L).2.1)
   [(0,kBox m most (qbi m most (fun _=>false) at_ L).1),(1,kMap (qbi m most (fun _=>false) at_ L).1),(2,kRow (qbi m most (fun _=>false) at_ L).1)] 3:=by
 have hle:=hL.le
 have hmem:L.getD at_ Fnd.none∈L:=by
  rw [zd,ze ha]
  exact xt ha
 have hfit:=hL.fit _ hmem
 have hdep:=hL.dep at_ ha
 have hml:=jhq hM (L.getD at_ Fnd.none).s
 unfold qbi
 have hmv:=qxy m hM (L.getD at_ Fnd.none).s hfit
 unfold kBox kRow kMap
 refine zM {} 300 Tryz.func23 (fun c0 rdb mpb=>?_)
 (repeat' ((conv=>whnf);first|refine zA ?_|refine zO ?_|refine Ob.auto ?_|refine zI ?_|refine zD 300 ?_|(apply zB <;> intro hb <;> (try simp [-zd] at hb) <;> try (exfalso;omega))|refine Ob.intro ?_ ?_))
 (repeat' ((conv=>whnf);first|refine zA ?_|refine zO ?_|refine Ob.auto ?_|refine zI ?_|refine zC 300 (hmv) ?_|refine zG 300 (fun hg=>hmv) ?_|(refine CallY.con (hmv) (by rfl) leA ?_)|(refine CallZ.con (fun hg=>hmv) jp (by rfl) ?_)|(refine qm (fun _=>rfl) 300 (hmv) qc (by (repeat' (first|exact trivial|exact Le.refl _|(refine And.intro ?_ ?_))) <;> fail) (by rfl) (by kernel_rfl) ?_)|(refine jb (fun _=>rfl) 300 (fun hg=>hmv) (fun hg=>qc) (fun hg=>(by (repeat' (first|exact trivial|exact Le.refl _|exact Le.cnd hg|(refine And.intro ?_ ?_))) <;> fail)) (by rfl) (by kernel_rfl) ?_)|refine zD 300 ?_|(refine zQ 300 ?_)|(apply zB <;> intro hb <;> (try simp [-zd] at hb) <;> try (exfalso;omega))|refine Ob.intro ?_ ?_))
 generalize hR:qdf m most (fun _=>false) (L.getD at_ Fnd.none) (at_:Int) (ji m (L.getD at_ Fnd.none).s) L=R
 ((conv=>whnf);refine qt (fun _=>rfl) 300 1 (fun g:Nat × List Fnd=>[(30,iv g.1)]) (fun g=>[(0,.box 71 (m.cells++[iv most,.own 2 0 0 g.2.length,.mapv 1])),(1,.box jc [.keys (qgs g.2)]),(2,.row [] 67 10 0 g.2.length (encL Fnd.cells Fnd.none g.2))]) (fun g=>g.1≤(ji m (L.getD at_ Fnd.none).s).length∧LOk m most g.2∧at_<g.2.length∧qdf m most (fun _=>false) (L.getD at_ Fnd.none) (at_:Int) ((ji m (L.getD at_ Fnd.none).s).drop g.1) g.2=R) (fun g=>(ji m (L.getD at_ Fnd.none).s).length - g.1) ((0,L)) (⟨zw _,hL,ha,hR⟩) qa qa (fun _=>rfl) (by kernel_rfl) ?_;(conv=>whnf))
 rintro ⟨i,K⟩ ⟨hi,hK,hak,hsp⟩
 simp only at hi hK hak hsp
 have hKle:=hK.le
 by_cases hil:i<(ji m (L.getD at_ Fnd.none).s).length
 ·have hv:qbr m (L.getD at_ Fnd.none).s ((ji m (L.getD at_ Fnd.none).s).getD i {})=true:=mem_movesF.1 (qr _ i {} hil)
  have hd1:inR .i64 ((L.getD at_ Fnd.none).depth+1):=⟨by show (-9223372036854775808:Int)≤_;omega,by show _≤(9223372036854775807:Int);omega⟩
  have hdo:=jhy m hM (L.getD at_ Fnd.none).s ((ji m (L.getD at_ Fnd.none).s).getD i {}) hfit hv
  have hs':=qvp hM hfit hv
  rw [qma _ i {} hil,qdf] at hsp
  have hadd:=qxs m hM most K (by omega) ⟨qbh m (L.getD at_ Fnd.none).s ((ji m (L.getD at_ Fnd.none).s).getD i {}),at_,(ji m (L.getD at_ Fnd.none).s).getD i {},(L.getD at_ Fnd.none).depth+1⟩ hs'
  (repeat' ((conv=>whnf);first|refine zA ?_|refine zO ?_|refine Ob.auto ?_|refine zI ?_|refine zD 300 ?_|(apply zB <;> intro hb <;> (try simp [-zd] at hb) <;> try (exfalso;omega))|refine Ob.intro ?_ ?_))
  (repeat' ((conv=>whnf);first|refine zO ?_|refine Ob.auto ?_|(refine Ob.intro (by (first|exact ⟨by omega,by omega⟩|exact hd1)) ?_)|refine zC 300 (hdo) ?_|refine zG 300 (fun hg=>hdo) ?_|(refine CallY.con (hdo) (by rfl) leA ?_)|(refine CallZ.con (fun hg=>hdo) jp (by rfl) ?_)|(refine qm (fun _=>rfl) 300 (hdo) qc (by (repeat' (first|exact trivial|exact Le.refl _|(refine And.intro ?_ ?_))) <;> fail) (by rfl) (by kernel_rfl) ?_)|(refine jb (fun _=>rfl) 300 (fun hg=>hdo) (fun hg=>qc) (fun hg=>(by (repeat' (first|exact trivial|exact Le.refl _|exact Le.cnd hg|(refine And.intro ?_ ?_))) <;> fail)) (by rfl) (by kernel_rfl) ?_)|refine zD 300 ?_|(refine qax (fun _=>rfl) (by kernel_rfl) 300 ?_)|(apply zB <;> intro hb <;> (try simp [-zd] at hb) <;> try (exfalso;omega))|refine Ob.intro ?_ ?_))
  ((conv=>whnf);refine AltG.far 14 [0,3,4] (by kernel_rfl) farA (EndG.go ?_))
  (repeat' ((conv=>whnf);first|refine zA ?_|refine zO ?_|refine Ob.auto ?_|(refine Ob.intro (by (first|exact ⟨by omega,by omega⟩|exact hd1)) ?_)|refine zD 300 ?_|(apply zB <;> intro hb <;> (try simp [-zd] at hb) <;> try (exfalso;omega))|refine Ob.intro ?_ ?_))
  ((conv=>whnf);refine zT 300 [0,1,2] (hadd) qa ?_)
  generalize hA:addF most K ⟨qbh m (L.getD at_ Fnd.none).s ((ji m (L.getD at_ Fnd.none).s).getD i {}),at_,(ji m (L.getD at_ Fnd.none).s).getD i {},(L.getD at_ Fnd.none).depth+1⟩=A at hsp
  have hKA:LOk m most A.1:=by rw [← hA];exact hK.add hs' (by simp only;omega) (by simp only;omega)
  have hAl:K.length≤A.1.length:=by rw [← hA];exact qvs _ _ _
  (repeat' ((conv=>whnf);first|refine zA ?_|refine zO ?_|refine Ob.auto ?_|(refine Ob.intro (by (first|exact ⟨by omega,by omega⟩|exact hd1)) ?_)|refine zD 300 ?_|(apply zB <;> intro hb <;> (try simp [-zd] at hb) <;> try (exfalso;omega))|refine Ob.intro ?_ ?_))
  ·have hA0:A.2=false:=by assumption
   rw [zb hA0] at hsp
   have hA1:A.1=K:=by
    rw [← hA] at hA0 ⊢
    rcases qrx most K ⟨qbh m (L.getD at_ Fnd.none).s ((ji m (L.getD at_ Fnd.none).s).getD i {}),at_,(ji m (L.getD at_ Fnd.none).s).getD i {},(L.getD at_ Fnd.none).depth+1⟩ with e|⟨_,e1,e2⟩
    ·exact e
    ·unfold addF at hA0
     rw [za (by rw [e1];decide),za e2] at hA0
     cases hA0
   subst hsp
   obtain ⟨A1,A2⟩:=A
   simp only at hA1
   subst hA1
   exact ⟨Le.refl _,qa⟩
  ·have hA0:A.2=true:=by assumption
   have hlt:K.length<A.1.length:=by assumption
   have hg:decide ((K.length:Int)<(A.1.length:Int))=true:=xn (by omega)
   refine OpG.fcall rfl rfl hg hg rfl ?_
   have hnv:=juu (qbh m (L.getD at_ Fnd.none).s ((ji m (L.getD at_ Fnd.none).s).getD i {}))
   ((conv=>whnf);refine qeu (fun _=>rfl) 300 (hnv) (by rfl) leA (by kernel_rfl) ?_)
   rw [za (by rw [hA0];decide),za (fun h=>by cases h.2)] at hsp
   (repeat' ((conv=>whnf);first|refine zA ?_|refine zO ?_|refine Ob.auto ?_|(refine Ob.intro (by (first|exact ⟨by omega,by omega⟩|exact hd1)) ?_)|refine zD 300 ?_|(apply zB <;> intro hb <;> (try simp [-zd] at hb) <;> try (exfalso;omega))|refine Ob.intro ?_ ?_))
   ((conv=>whnf);refine ⟨(i+1,A.1),⟨hil,hKA,xu hak hAl,hsp⟩,⟨qa,qa⟩,⟨qa,qa⟩,?_⟩;(first|omega|(dsimp only;omega)|skip))
  ·have hA0:A.2=true:=by assumption
   have hle1:A.1.length≤K.length:=by assumption
   rw [za (by rw [hA0];decide),za (fun h=>by omega)] at hsp
   ((conv=>whnf);refine ⟨(i+1,A.1),⟨hil,hKA,xu hak hAl,hsp⟩,⟨qa,qa⟩,⟨qa,qa⟩,?_⟩;(first|omega|(dsimp only;omega)|skip))
 ·obtain rfl:i=(ji m (L.getD at_ Fnd.none).s).length:=by omega
  rw [List.drop_length,qdf] at hsp
  subst hsp
  (repeat' ((conv=>whnf);first|refine zA ?_|refine zO ?_|refine Ob.auto ?_|refine zI ?_|refine zD 300 ?_|(apply zB <;> intro hb <;> (try simp [-zd] at hb) <;> try (exfalso;omega))|refine Ob.intro ?_ ?_))
  exact ⟨Le.refl _,qa⟩
set_option maxHeartbeats 8000000
theorem qbk (m:Md) (hM:ModOk m) (hf:fitsB m (ju m)=true) (steps most:Int) :
  Con Tryz.prog 14 [m.av,iv steps,iv most] (.tup [iv (qay m steps most).1,.bool (qay m steps most).2]):=by
 have hbg:=jho m hM hf most
 have hms:=qvr most
 have hL0:=jia hf hms.1
 unfold qay
 by_cases hst:steps<0
 ·rw [zb hst]
  refine zK {} 300 Tryz.func14 (fun c0 rdb=>?_)
  (repeat' ((conv=>whnf);first|refine zA ?_|refine zO ?_|refine Ob.auto ?_|refine zD 300 ?_|(apply zB <;> intro hb <;> (try simp [-zd] at hb) <;> try (exfalso;omega))|refine Ob.intro ?_ ?_))
  exact Le.refl _
 rw [za hst]
 unfold qvq
 generalize qfg most=mo at *
 generalize hR:qou m steps mo 20001 0 (qel m)=R
 unfold qsl kMap kRow at hbg
 refine zK {} 300 Tryz.func14 (fun c0 rdb=>?_)
 (repeat' ((conv=>whnf);first|refine zA ?_|refine zO ?_|refine Ob.auto ?_|refine zD 300 ?_|(apply zB <;> intro hb <;> (try simp [-zd] at hb) <;> try (exfalso;omega))|refine Ob.intro ?_ ?_))
 ((conv=>whnf);refine zT 300 [] (hbg) qa ?_)
 (repeat' ((conv=>whnf);first|refine zA ?_|refine zO ?_|refine Ob.auto ?_|(refine Ob.intro (by (first|exact ⟨rfl,rfl⟩|exact ⟨⟨rfl,rfl⟩,Nat.zero_lt_one⟩|exact ⟨by omega,by omega⟩)) ?_)|refine zD 300 ?_|(apply zB <;> intro hb <;> (try simp [-zd] at hb) <;> try (exfalso;omega))|refine Ob.intro ?_ ?_))
 ((conv=>whnf);refine qt (fun _=>rfl) 300 1 (fun g:Nat × List Fnd=>[(10,iv g.1)]) (fun g=>[(3,.box 71 (m.cells++[iv mo,.own 4 0 0 g.2.length,.mapv 2])),(2,.box jc [.keys (qgs g.2)]),(4,.row [] 67 10 0 g.2.length (encL Fnd.cells Fnd.none g.2))]) (fun g=>LOk m mo g.2∧qou m steps mo (20001 - g.1) g.1 g.2=R∧g.1≤g.2.length) (fun g=>20002 - g.1) ((0,qel m)) (⟨hL0,hR,zw _⟩) qa qa (fun _=>rfl) (by kernel_rfl) ?_;(conv=>whnf))
 rintro ⟨at_,L⟩ ⟨hL,hex,hal⟩
 simp only at hL hex hal
 have hle:=hL.le
 have hne:=hL.ne
 obtain ⟨n,hn⟩:∃ n,20001 - at_=n+1:=⟨20000 - at_,by omega⟩
 rw [hn,qou] at hex
 have hn':20001 - (at_+1)=n:=by omega
 by_cases hc:at_<L.length∧(L.getD at_ Fnd.none).depth<steps
 ·rw [zb hc] at hex
  have hsp:=jvf m hM mo hms.2 L hL at_ hc.1
  have hok:=jdp hM (bad:=fun _=>false) hL hc.1
  generalize qbi m mo (fun _=>false) at_ L=S at hsp hok hex
  obtain ⟨S1,S2,S3⟩:=S
  simp only at hok hex
  (repeat' ((conv=>whnf);first|refine zA ?_|refine zO ?_|refine Ob.auto ?_|(refine Ob.intro (by (first|exact ⟨rfl,rfl⟩|exact ⟨by omega,by omega⟩)) ?_)|refine zD 300 ?_|(apply zB <;> intro hb <;> (try simp [-zd] at hb) <;> try (exfalso;omega))|refine Ob.intro ?_ ?_))
  ((conv=>whnf);refine zT 300 [3,2,4] (hsp) qa ?_)
  (repeat' ((conv=>whnf);first|refine zA ?_|refine zO ?_|refine Ob.auto ?_|(refine Ob.intro (by (first|exact ⟨rfl,rfl⟩|exact ⟨by omega,by omega⟩)) ?_)|refine zD 300 ?_|(apply zB <;> intro hb <;> (try simp [-zd] at hb) <;> try (exfalso;omega))|refine Ob.intro ?_ ?_))
  ·have h2:S2=false:=by assumption
   subst h2
   rw [za (by decide)] at hex
   subst hex
   exact Le.refl _
  ·have h2:S2=true:=by assumption
   subst h2
   rw [zb rfl] at hex
   ((conv=>whnf);refine ⟨(at_+1,S1),⟨hok.1,by rw [hn'];exact hex,by have:=hok.2;simp only;omega⟩,⟨qa,qa⟩,⟨qa,qa⟩,?_⟩;(first|omega|(dsimp only;omega)|skip))
 ·rw [za hc] at hex
  subst hex
  (repeat' ((conv=>whnf);first|refine zA ?_|refine zO ?_|refine Ob.auto ?_|(refine Ob.intro (by (first|exact ⟨rfl,rfl⟩|exact ⟨by omega,by omega⟩)) ?_)|refine zD 300 ?_|(apply zB <;> intro hb <;> (try simp [-zd] at hb) <;> try (exfalso;omega))|refine Ob.intro ?_ ?_))
  exact Le.refl _
end Go.Proofs.YtikahnkkfkoglaaGreatDoor
end
