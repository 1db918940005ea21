/- Some texts of the library, one behind the other. -/
import Derived.Test.YtikahnkkfkoglaaGreatDoorY238
import Derived.Test.YtikahnkkfkoglaaGreatDoorY221
import Derived.Test.YtikahnkkfkoglaaGreatDoorY212
import Derived.Test.YtikahnkkfkoglaaGreatDoorY22
set_option linter.unusedSimpArgs false
set_option linter.unusedVariables false
section
namespace Go.Proofs.YtikahnkkfkoglaaGreatDoor
open Go Go.Sx Go.RowKit Go.St
set_option maxRecDepth 100000
set_option maxHeartbeats 8000000
theorem jwf (l:List Nd) (hl:l.length≤9223372036854775807) (hz:∀ n∈l,NdSz n):Con Tryz.prog 7 [jx l] (.tup [(qes l).1.av,.bool (qes l).2]):=by
 have hm:Tree l→Con Tryz.prog 16 [jx l] (.tup [(if (qcg l).1=0 then qfh l else mdZ).av,.bool (decide ((qcg l).1=0))]):=fun ht=>by
  by_cases h:(qcg l).1=0
  ·rw [zb h,xn h];exact jhr l ht h
  ·rw [za h,zau h];exact jwe l ht h
 refine zK {} 300 Tryz.func7 (fun c0 rdb=>?_)
 (repeat' ((conv=>whnf);first|refine zA ?_|refine zO ?_|refine Ob.auto ?_|refine zI ?_|refine zC 300 (qnc l hl) ?_|refine zG 300 (fun hg=>qnc l hl) ?_|(refine CallY.con (qnc l hl) (by rfl) leA ?_)|(refine CallZ.con (fun hg=>qnc l hl) qz (by rfl) ?_)|refine zC 300 (qnb l hl hz) ?_|refine zG 300 (fun hg=>qnb l hl hz) ?_|(refine CallY.con (qnb l hl hz) (by rfl) leA ?_)|(refine CallZ.con (fun hg=>qnb l hl hz) qz (by rfl) ?_)|(refine qi (fun _=>rfl) 300 (qnc l hl) qc (by (repeat' (first|exact trivial|exact Le.refl _|(refine And.intro ?_ ?_))) <;> fail) (by rfl) (by kernel_rfl) ?_)|(refine qq (fun _=>rfl) 300 (fun hg=>qnc l hl) (fun hg=>qc) (fun hg=>(by (repeat' (first|exact trivial|exact Le.refl _|exact Le.cnd hg|(refine And.intro ?_ ?_))) <;> fail)) (by rfl) (by kernel_rfl) ?_)|(refine qi (fun _=>rfl) 300 (qnb l hl hz) qc (by (repeat' (first|exact trivial|exact Le.refl _|(refine And.intro ?_ ?_))) <;> fail) (by rfl) (by kernel_rfl) ?_)|(refine qq (fun _=>rfl) 300 (fun hg=>qnb l hl hz) (fun hg=>qc) (fun hg=>(by (repeat' (first|exact trivial|exact Le.refl _|exact Le.cnd hg|(refine And.intro ?_ ?_))) <;> fail)) (by rfl) (by kernel_rfl) ?_)|refine zD 300 ?_|(apply zB <;> intro hb <;> (try simp [-List.getD_eq_getElem?_getD] at hb) <;> try (exfalso;omega))|refine Ob.intro ?_ ?_))
 ·have e:qes l=(mdZ,false):=za fun h=>by
   rcases hb with hb|hb
   ·omega
   ·rw [hb] at h;simp at h
  rw [e]
  exact Le.tup ⟨jhs,Le.refl _,trivial⟩
 ·((conv=>whnf);refine qex (fun _=>rfl) 300 (hm (qpc hb.2)) (by rfl) leA (by kernel_rfl) ?_)
  (repeat' ((conv=>whnf);first|refine zA ?_|refine zO ?_|refine Ob.auto ?_|refine zD 300 ?_|(apply zB <;> intro hb <;> (try simp [-List.getD_eq_getElem?_getD] at hb) <;> try (exfalso;omega))|refine Ob.intro ?_ ?_))
  have e:qes l=(if (qcg l).1=0 then qfh l else mdZ,decide ((qcg l).1=0)):=by
   unfold qes
   by_cases h:(qcg l).1=0
   ·rw [zb ⟨hb,h⟩,zb h,xn h]
   ·rw [za (fun g=>h g.2),za h,zau h]
  rw [e]
  exact Le.refl _
end Go.Proofs.YtikahnkkfkoglaaGreatDoor
end
section
namespace Go.Proofs.YtikahnkkfkoglaaGreatDoor
open List renaming getD_eq_getElem?_getD → zd
open Go Go.Sx Go.RowKit Go.St Pa
set_option maxRecDepth 100000
set_option maxHeartbeats 8000000
def stJ (m:Md) (p:List Mv) (j:Nat):Stt:=(p.take j).foldl (jg m) (qw m)
theorem jht (m:Md) (p:List Mv) {j:Nat} (h:j<p.length):stJ m p (j+1)=jg m (stJ m p j) (p.getD j {}):=by
 unfold stJ
 rw [zbb,ze h,xx,zd,ze h]
 rfl
theorem jhu {m:Md} (hM:ModOk m) (hf:fitsB m (qw m)=true) {p:List Mv} (hp:∀ j,j<p.length→p.getD j {}∈qp m (stJ m p j)):∀ j,j≤p.length→fitsB m (stJ m p j)=true
 | 0,_=>hf
 | j+1,h=>by
  rw [jht m p h]
  exact qta hM (jhu hM hf hp j (by omega)) (mem_movesF.1 (hp j h))
theorem jwg (v w:Mv):decide (v=w)=(v.kind == w.kind && (v.proc == w.proc && (v.edge == w.edge && (v.chn == w.chn && true)))):=by
 cases v;cases w
 rw [Bool.eq_iff_iff]
 simp only [xd,zf,xu,Mv.mk.injEq,and_true]
theorem jwh (vs:List Mv) (k:Nat) (w:Mv) (h:k<vs.length):(((vs.take k).any fun v=>decide (v=w)) || ((vs.getD k {}).kind == w.kind && ((vs.getD k {}).proc == w.proc && ((vs.getD k {}).edge == w.edge && ((vs.getD k {}).chn == w.chn && true)))))=((vs.take (k+1)).any fun v=>decide (v=w)):=by
 rw [← jwg,zbb,ze h,List.any_append,zd,ze h]
 simp
theorem jwi (l:List Nd) (hl:l.length≤9223372036854775807) (hz:∀ n∈l,NdSz n) :
  Con Tryz.prog 3 [jx l] (.bool true):=by
 have hm:=jwf l hl hz
 cases hmd:(qes l).2 with
 | false=>
  rw [hmd] at hm
  generalize (qes l).1=M at hm
  refine zK {} 300 Tryz.func3 (fun c0 rdb=>?_)
  (repeat' ((conv=>whnf);first|refine zA ?_|refine zO ?_|refine Ob.auto ?_|refine zC 300 (qbp) ?_|refine zG 300 (fun hg=>qbp) ?_|(refine CallY.con (qbp) (by rfl) leA ?_)|(refine CallZ.con (fun hg=>qbp) qz (by rfl) ?_)|refine zC 300 (hm) ?_|refine zG 300 (fun hg=>hm) ?_|(refine CallY.con (hm) (by rfl) leA ?_)|(refine CallZ.con (fun hg=>hm) qz (by rfl) ?_)|(refine qi (fun _=>rfl) 300 (qbp) qc (by (repeat' (first|exact trivial|exact Le.refl _|(refine And.intro ?_ ?_))) <;> fail) (by rfl) (by kernel_rfl) ?_)|(refine qq (fun _=>rfl) 300 (fun hg=>qbp) (fun hg=>qc) (fun hg=>(by (repeat' (first|exact trivial|exact Le.refl _|exact Le.cnd hg|(refine And.intro ?_ ?_))) <;> fail)) (by rfl) (by kernel_rfl) ?_)|(refine qi (fun _=>rfl) 300 (hm) qc (by (repeat' (first|exact trivial|exact Le.refl _|(refine And.intro ?_ ?_))) <;> fail) (by rfl) (by kernel_rfl) ?_)|(refine qq (fun _=>rfl) 300 (fun hg=>hm) (fun hg=>qc) (fun hg=>(by (repeat' (first|exact trivial|exact Le.refl _|exact Le.cnd hg|(refine And.intro ?_ ?_))) <;> fail)) (by rfl) (by kernel_rfl) ?_)|refine zD 300 ?_|(apply zB <;> intro hb <;> (try simp [-zd] at hb) <;> try (exfalso;omega))|refine Ob.intro ?_ ?_))
  all_goals exact Le.refl _
 | true=>
  rw [hmd] at hm
  have hM:=(qtw hmd).1
  have hvf:VFit (qes l).1.vars:=by rw [(qtw hmd).2.1];exact jrh (qtw hmd).2.2.1 (qpg (qtw hmd).2.2.2).2
  have hf:=jri hM.ok hvf
  generalize (qes l).1=M at hm hM hf
  have c1:=jsx M hM hf 150 (by decide)
  have c2:=jss M hM hf 150
  have c3:=jeb M hM
  have hcut:(allL M 150 20001 0 (qae M)).2=true→qbv M 150=cutR M (allL M 150 20001 0 (qae M)).1:=jst (most:=150)
  have hrun:=jsu M 150
  have hok:=jsv hM hf 150
  have hAl:=qxl hM 20001 0 _ (qmr hf (show (1:Int)≤150 by decide))
  generalize allL M 150 20001 0 (qae M)=A at c1 hcut hAl
  generalize qbv M 150=R at c2 hcut hrun hok
  obtain ⟨AL,ok⟩:=A
  simp only at c1 hcut hAl
  cases ok with
  | false=>
   refine zK {} 300 Tryz.func3 (fun c0 rdb=>?_)
   (repeat' ((conv=>whnf);first|refine zA ?_|refine zO ?_|refine Ob.auto ?_|refine zC 300 (qbp) ?_|refine zG 300 (fun hg=>qbp) ?_|(refine CallY.con (qbp) (by rfl) leA ?_)|(refine CallZ.con (fun hg=>qbp) qz (by rfl) ?_)|refine zC 300 (hm) ?_|refine zG 300 (fun hg=>hm) ?_|(refine CallY.con (hm) (by rfl) leA ?_)|(refine CallZ.con (fun hg=>hm) qz (by rfl) ?_)|refine zC 300 (c1) ?_|refine zG 300 (fun hg=>c1) ?_|(refine CallY.con (c1) (by rfl) leA ?_)|(refine CallZ.con (fun hg=>c1) qz (by rfl) ?_)|(refine qi (fun _=>rfl) 300 (qbp) qc (by (repeat' (first|exact trivial|exact Le.refl _|(refine And.intro ?_ ?_))) <;> fail) (by rfl) (by kernel_rfl) ?_)|(refine qq (fun _=>rfl) 300 (fun hg=>qbp) (fun hg=>qc) (fun hg=>(by (repeat' (first|exact trivial|exact Le.refl _|exact Le.cnd hg|(refine And.intro ?_ ?_))) <;> fail)) (by rfl) (by kernel_rfl) ?_)|(refine qi (fun _=>rfl) 300 (hm) qc (by (repeat' (first|exact trivial|exact Le.refl _|(refine And.intro ?_ ?_))) <;> fail) (by rfl) (by kernel_rfl) ?_)|(refine qq (fun _=>rfl) 300 (fun hg=>hm) (fun hg=>qc) (fun hg=>(by (repeat' (first|exact trivial|exact Le.refl _|exact Le.cnd hg|(refine And.intro ?_ ?_))) <;> fail)) (by rfl) (by kernel_rfl) ?_)|(refine qi (fun _=>rfl) 300 (c1) qc (by (repeat' (first|exact trivial|exact Le.refl _|(refine And.intro ?_ ?_))) <;> fail) (by rfl) (by kernel_rfl) ?_)|(refine qq (fun _=>rfl) 300 (fun hg=>c1) (fun hg=>qc) (fun hg=>(by (repeat' (first|exact trivial|exact Le.refl _|exact Le.cnd hg|(refine And.intro ?_ ?_))) <;> fail)) (by rfl) (by kernel_rfl) ?_)|refine zD 300 ?_|(apply zB <;> intro hb <;> (try simp [-zd] at hb) <;> try (exfalso;omega))|refine Ob.intro ?_ ?_))
   all_goals exact Le.refl _
  | true=>
   rw [zb rfl] at c1
   have hcut:=hcut rfl
   unfold cutR at hcut
   cases hb0:qdl M AL with
   | false=>
    rw [za (by rw [hb0];decide)] at hcut
    rw [jfb hb0] at c1
    subst hcut
    refine zK {} 300 Tryz.func3 (fun c0 rdb=>?_)
    (repeat' ((conv=>whnf);first|refine zA ?_|refine zO ?_|refine Ob.auto ?_|refine zC 300 (qbp) ?_|refine zG 300 (fun hg=>qbp) ?_|(refine CallY.con (qbp) (by rfl) leA ?_)|(refine CallZ.con (fun hg=>qbp) qz (by rfl) ?_)|refine zC 300 (hm) ?_|refine zG 300 (fun hg=>hm) ?_|(refine CallY.con (hm) (by rfl) leA ?_)|(refine CallZ.con (fun hg=>hm) qz (by rfl) ?_)|refine zC 300 (c1) ?_|refine zG 300 (fun hg=>c1) ?_|(refine CallY.con (c1) (by rfl) leA ?_)|(refine CallZ.con (fun hg=>c1) qz (by rfl) ?_)|refine zC 300 (c2) ?_|refine zG 300 (fun hg=>c2) ?_|(refine CallY.con (c2) (by rfl) leA ?_)|(refine CallZ.con (fun hg=>c2) qz (by rfl) ?_)|(refine qi (fun _=>rfl) 300 (qbp) qc (by (repeat' (first|exact trivial|exact Le.refl _|(refine And.intro ?_ ?_))) <;> fail) (by rfl) (by kernel_rfl) ?_)|(refine qq (fun _=>rfl) 300 (fun hg=>qbp) (fun hg=>qc) (fun hg=>(by (repeat' (first|exact trivial|exact Le.refl _|exact Le.cnd hg|(refine And.intro ?_ ?_))) <;> fail)) (by rfl) (by kernel_rfl) ?_)|(refine qi (fun _=>rfl) 300 (hm) qc (by (repeat' (first|exact trivial|exact Le.refl _|(refine And.intro ?_ ?_))) <;> fail) (by rfl) (by kernel_rfl) ?_)|(refine qq (fun _=>rfl) 300 (fun hg=>hm) (fun hg=>qc) (fun hg=>(by (repeat' (first|exact trivial|exact Le.refl _|exact Le.cnd hg|(refine And.intro ?_ ?_))) <;> fail)) (by rfl) (by kernel_rfl) ?_)|(refine qi (fun _=>rfl) 300 (c1) qc (by (repeat' (first|exact trivial|exact Le.refl _|(refine And.intro ?_ ?_))) <;> fail) (by rfl) (by kernel_rfl) ?_)|(refine qq (fun _=>rfl) 300 (fun hg=>c1) (fun hg=>qc) (fun hg=>(by (repeat' (first|exact trivial|exact Le.refl _|exact Le.cnd hg|(refine And.intro ?_ ?_))) <;> fail)) (by rfl) (by kernel_rfl) ?_)|(refine qi (fun _=>rfl) 300 (c2) qc (by (repeat' (first|exact trivial|exact Le.refl _|(refine And.intro ?_ ?_))) <;> fail) (by rfl) (by kernel_rfl) ?_)|(refine qq (fun _=>rfl) 300 (fun hg=>c2) (fun hg=>qc) (fun hg=>(by (repeat' (first|exact trivial|exact Le.refl _|exact Le.cnd hg|(refine And.intro ?_ ?_))) <;> fail)) (by rfl) (by kernel_rfl) ?_)|refine zD 300 ?_|(apply zB <;> intro hb <;> (try simp [-zd] at hb) <;> try (exfalso;omega))|refine Ob.intro ?_ ?_))
    all_goals exact Le.refl _
   | true=>
    rw [zb hb0] at hcut
    obtain ⟨y1,y2,y3⟩:=jfc hb0
    subst hcut
    simp only at hrun hok c2
    have hp:=jfi hok hrun (cutB M AL).length ((cutB M AL).length - 1) (by omega) (by omega)
    obtain ⟨p1,p2,p3⟩:=hp
    rw [y2,← p1] at c1
    have e:qms (cutB M AL,false,true)=(qbg (cutB M AL) ((cutB M AL).length - 1)).reverse:=zb rfl
    rw [e] at c2
    rw [← p2] at y3
    have hd:=hok.dep ((cutB M AL).length - 1) (by omega)
    have hle:=hok.le
    have hmo:=qpl 150
    have hpl:(qbg (cutB M AL) ((cutB M AL).length - 1)).reverse.length≤20000:=by rw [List.length_reverse];omega
    rw [← List.length_reverse] at c1
    clear hd hle hmo
    generalize (qbg (cutB M AL) ((cutB M AL).length - 1)).reverse=p at c1 c2 y3 p3 hpl
    generalize (cutB M AL).length=nL at c2
    clear p1 p2 y1 y2 e hok hrun hb0 hAl hmd hvf hz hl
    have hst:=jhu hM hf (p:=p) p3
    unfold qmn sSt sFr sBy sFa at c3
    refine zK {} 300 Tryz.func3 (fun c0 rdb=>?_)
    (repeat' ((conv=>whnf);first|refine zA ?_|refine zO ?_|refine Ob.auto ?_|refine zI ?_|refine zC 300 (qbp) ?_|refine zG 300 (fun hg=>qbp) ?_|(refine CallY.con (qbp) (by rfl) leA ?_)|(refine CallZ.con (fun hg=>qbp) qz (by rfl) ?_)|refine zC 300 (hm) ?_|refine zG 300 (fun hg=>hm) ?_|(refine CallY.con (hm) (by rfl) leA ?_)|(refine CallZ.con (fun hg=>hm) qz (by rfl) ?_)|refine zC 300 (c1) ?_|refine zG 300 (fun hg=>c1) ?_|(refine CallY.con (c1) (by rfl) leA ?_)|(refine CallZ.con (fun hg=>c1) qz (by rfl) ?_)|refine zC 300 (c2) ?_|refine zG 300 (fun hg=>c2) ?_|(refine CallY.con (c2) (by rfl) leA ?_)|(refine CallZ.con (fun hg=>c2) qz (by rfl) ?_)|(refine qi (fun _=>rfl) 300 (qbp) qc (by (repeat' (first|exact trivial|exact Le.refl _|(refine And.intro ?_ ?_))) <;> fail) (by rfl) (by kernel_rfl) ?_)|(refine qq (fun _=>rfl) 300 (fun hg=>qbp) (fun hg=>qc) (fun hg=>(by (repeat' (first|exact trivial|exact Le.refl _|exact Le.cnd hg|(refine And.intro ?_ ?_))) <;> fail)) (by rfl) (by kernel_rfl) ?_)|(refine qi (fun _=>rfl) 300 (hm) qc (by (repeat' (first|exact trivial|exact Le.refl _|(refine And.intro ?_ ?_))) <;> fail) (by rfl) (by kernel_rfl) ?_)|(refine qq (fun _=>rfl) 300 (fun hg=>hm) (fun hg=>qc) (fun hg=>(by (repeat' (first|exact trivial|exact Le.refl _|exact Le.cnd hg|(refine And.intro ?_ ?_))) <;> fail)) (by rfl) (by kernel_rfl) ?_)|(refine qi (fun _=>rfl) 300 (c1) qc (by (repeat' (first|exact trivial|exact Le.refl _|(refine And.intro ?_ ?_))) <;> fail) (by rfl) (by kernel_rfl) ?_)|(refine qq (fun _=>rfl) 300 (fun hg=>c1) (fun hg=>qc) (fun hg=>(by (repeat' (first|exact trivial|exact Le.refl _|exact Le.cnd hg|(refine And.intro ?_ ?_))) <;> fail)) (by rfl) (by kernel_rfl) ?_)|(refine qi (fun _=>rfl) 300 (c2) qc (by (repeat' (first|exact trivial|exact Le.refl _|(refine And.intro ?_ ?_))) <;> fail) (by rfl) (by kernel_rfl) ?_)|(refine qq (fun _=>rfl) 300 (fun hg=>c2) (fun hg=>qc) (fun hg=>(by (repeat' (first|exact trivial|exact Le.refl _|exact Le.cnd hg|(refine And.intro ?_ ?_))) <;> fail)) (by rfl) (by kernel_rfl) ?_)|refine zD 300 ?_|(apply zB <;> intro hb <;> (try simp [-zd] at hb) <;> try (exfalso;omega))|refine Ob.intro ?_ ?_))
    ((conv=>whnf);refine zT 300 [] (c3) qa ?_)
    (repeat' ((conv=>whnf);first|refine zA ?_|refine zO ?_|refine Ob.auto ?_|(refine Ob.intro (by (first|exact ⟨rfl,rfl⟩|exact ⟨⟨rfl,rfl⟩,zbd⟩|exact ⟨⟨rfl,rfl⟩,xb _,Int.zero_lt_one⟩|exact ⟨by omega,by omega⟩)) ?_)|refine zD 300 ?_|(apply zB <;> intro hb <;> (try simp [-zd] at hb) <;> try (exfalso;omega))|refine Ob.intro ?_ ?_))
    ((conv=>whnf);refine qm (fun _=>rfl) 300 1 (fun i:Nat=>[(9,iv i),(2,.bool false)]) (fun i=>[(13,.box 40 (stJ M p i).cells)]) (fun i=>i≤p.length) (fun i=>p.length - i) (0) (zv _) qa qa (fun _=>rfl) (by kernel_rfl) ?_;(conv=>whnf))
    clear c1 c2 c3 hm
    intro i hi
    have hfi:=hst i hi
    by_cases hil:i<p.length
    ·have hin:=p3 i hil
     have c4:=qxb M hM (stJ M p i) hfi
     have hml:=qxa hM (stJ M p i)
     have c5:=jer M hM (stJ M p i) (p.getD i {}) hfi (mem_movesF.1 hin)
     rw [← jht M p hil] at c5
     have hin':p.getD i {}∈qp M (stJ M p i):=hin
     (repeat' ((conv=>whnf);first|refine zA ?_|refine zO ?_|refine Ob.auto ?_|refine zI ?_|refine zC 300 (c4) ?_|refine zG 300 (fun hg=>c4) ?_|(refine CallY.con (c4) (by rfl) leA ?_)|(refine CallZ.con (fun hg=>c4) qz (by rfl) ?_)|(refine qi (fun _=>rfl) 300 (c4) qc (by (repeat' (first|exact trivial|exact Le.refl _|(refine And.intro ?_ ?_))) <;> fail) (by rfl) (by kernel_rfl) ?_)|(refine qq (fun _=>rfl) 300 (fun hg=>c4) (fun hg=>qc) (fun hg=>(by (repeat' (first|exact trivial|exact Le.refl _|exact Le.cnd hg|(refine And.intro ?_ ?_))) <;> fail)) (by rfl) (by kernel_rfl) ?_)|refine zD 300 ?_|(apply zB <;> intro hb <;> (try simp [-zd] at hb) <;> try (exfalso;omega))|refine Ob.intro ?_ ?_))
     generalize qp M (stJ M p i)=vs at hml hin' ⊢
     ((conv=>whnf);refine qm (fun _=>rfl) 300 2 (fun k:Nat=>[(12,iv k),(11,.bool ((vs.take k).any fun v=>decide (v=p.getD i {})))]) (fun _=>[]) (fun k=>k≤vs.length) (fun k=>vs.length - k) (0) (zv _) qa qa (fun _=>rfl) (by kernel_rfl) ?_;(conv=>whnf))
     intro k hk
     by_cases hkl:k<vs.length
     ·(repeat' ((conv=>whnf);first|refine zA ?_|refine zO ?_|refine Ob.auto ?_|refine zI ?_|refine zD 300 ?_|(apply zB <;> intro hb <;> (try simp [-zd] at hb) <;> try (exfalso;omega))|refine Ob.intro ?_ ?_))
      (repeat' ((conv=>whnf);first|refine zA ?_|refine zO ?_|refine Ob.auto ?_|refine zI ?_|refine zD 300 ?_|(refine zQ 300 ?_)|(apply zB <;> intro hb <;> (try simp [-zd] at hb) <;> try (exfalso;omega))|refine Ob.intro ?_ ?_))
      ((conv=>whnf);refine ⟨k+1,hkl,⟨⟨Le.refl _,Le.of_eq (congrArg AV.bool (jwh vs k (p.getD i {}) hkl)),trivial⟩,qa⟩,⟨qa,qa⟩,?_⟩;(first|omega|(dsimp only;omega)|skip))
     ·have hall:((vs.take k).any fun v=>decide (v=p.getD i {}))=true:=by
       rw [zbi (by omega)]
       exact List.any_eq_true.2 ⟨_,hin',xn rfl⟩
      rw [hall]
      (repeat' ((conv=>whnf);first|refine zA ?_|refine zO ?_|refine Ob.auto ?_|refine zI ?_|refine zD 300 ?_|(apply zB <;> intro hb <;> (try simp [-zd] at hb) <;> try (exfalso;omega))|refine Ob.intro ?_ ?_))
      (repeat' ((conv=>whnf);first|refine zA ?_|refine zO ?_|refine Ob.auto ?_|refine zI ?_|refine zC 300 (c5) ?_|refine zG 300 (fun hg=>c5) ?_|(refine CallY.con (c5) (by rfl) leA ?_)|(refine CallZ.con (fun hg=>c5) qz (by rfl) ?_)|(refine qi (fun _=>rfl) 300 (c5) qc (by (repeat' (first|exact trivial|exact Le.refl _|(refine And.intro ?_ ?_))) <;> fail) (by rfl) (by kernel_rfl) ?_)|(refine qq (fun _=>rfl) 300 (fun hg=>c5) (fun hg=>qc) (fun hg=>(by (repeat' (first|exact trivial|exact Le.refl _|exact Le.cnd hg|(refine And.intro ?_ ?_))) <;> fail)) (by rfl) (by kernel_rfl) ?_)|refine zD 300 ?_|(refine zQ 300 ?_)|(apply zB <;> intro hb <;> (try simp [-zd] at hb) <;> try (exfalso;omega))|refine Ob.intro ?_ ?_))
      ((conv=>whnf);refine ⟨i+1,hil,⟨qa,qa⟩,⟨qa,qa⟩,?_⟩;(first|omega|(dsimp only;omega)|skip))
    ·obtain rfl:i=p.length:=by omega
     have c6:=jei M hM (stJ M p p.length) hfi
     have e:badB M (stJ M p p.length)=true:=by
      unfold stJ
      rw [zay]
      exact y3
     rw [e] at c6
     (repeat' ((conv=>whnf);first|refine zA ?_|refine zO ?_|refine Ob.auto ?_|refine zI ?_|refine zC 300 (c6) ?_|refine zG 300 (fun hg=>c6) ?_|(refine CallY.con (c6) (by rfl) leA ?_)|(refine CallZ.con (fun hg=>c6) qz (by rfl) ?_)|(refine qi (fun _=>rfl) 300 (c6) qc (by (repeat' (first|exact trivial|exact Le.refl _|(refine And.intro ?_ ?_))) <;> fail) (by rfl) (by kernel_rfl) ?_)|(refine qq (fun _=>rfl) 300 (fun hg=>c6) (fun hg=>qc) (fun hg=>(by (repeat' (first|exact trivial|exact Le.refl _|exact Le.cnd hg|(refine And.intro ?_ ?_))) <;> fail)) (by rfl) (by kernel_rfl) ?_)|refine zD 300 ?_|(apply zB <;> intro hb <;> (try simp [-zd] at hb) <;> try (exfalso;omega))|refine Ob.intro ?_ ?_))
     exact Le.refl _
end Go.Proofs.YtikahnkkfkoglaaGreatDoor
end
