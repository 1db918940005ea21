/- Contracts: the package's Check. -/
import Derived.Test.YtkhdldncbmkidaaY439
import Derived.Test.YtkhdldncbmkidaaY42
set_option linter.unusedSimpArgs false
set_option linter.unusedVariables false
namespace Go.Proofs.Ytkhdldncbmkidaa
open List renaming getD_eq_getElem?_getD → zd
open Go Go.Sx Go.RowKit Go.Ru Go.Cl Go.St
set_option maxRecDepth 100000
set_option maxHeartbeats 8000000
def qje (l:Ln):List AV:=[.bool l.del,ints l.c]
def jjc (p:List Ln):AV:=.slc 2 p.length (encL qje ⟨false,[]⟩ p)
theorem jjd {cs nf:List (List Int)} {k:K} (hD:Doc cs k nf) {c:List Int} (hr:rightB c=true):∀ n,aliveN k nf n=some (keyN (normL c))→n<k.lits.length∧(lit k n).length=(normL c).length:=fun n hn=>by
 unfold aliveN at hn
 split at hn
 ·rename_i h
  have hn:=Option.some.inj hn
  have hri:=hD.F.ri n h.1
  have he:=qqb hri (qds hr) hn
  refine ⟨by rw [← hD.F.ln];exact h.1,?_⟩
  rw [(hD.F.li n h.1).length_eq,he]
  unfold codesN
  rw [xp]
 ·cases hn
theorem jje {p:List Ln} {i:Nat} (h:i<p.length):p.drop i=p.getD i ⟨false,[]⟩::p.drop (i+1):=by
 rw [List.drop_eq_getElem_cons h,zd,zb h];rfl
structure LnI (k0:K) (p:List Ln) (i:Nat) (k:K):Prop where
 le:i≤p.length
 e:linesK k0 0 p=linesK k i (p.drop i)
 d:∃ th nf,Doc th k nf
 l:k.lits.length+(p.length - i)≤100000
theorem jjf (k:K) (i:Nat) (l:Ln) (r:List Ln):linesK k i (l::r)=if rightB l.c then (if l.del then (if (k.rem (keyN (normL l.c))).2 then linesK (k.rem (keyN (normL l.c))).1 (i+1) r else ((i:Int)+1,k)) else if (k.ask (normL l.c) (qu (normL l.c))).2 then linesK ((k.ask (normL l.c) (qu (normL l.c))).1.add (normL l.c) (qu (normL l.c))) (i+1) r else ((i:Int)+1,k)) else ((i:Int)+1,k):=by
 obtain ⟨del,c⟩:=l
 cases del <;> rfl
theorem qms (cs:List (List Int)) (p:List Ln) (goal:List Int) (hl:cs.length+p.length≤100000) (hc:∀ d∈cs,d.length≤100000) (hp:∀ l∈p,l.c.length≤100000) (hg:goal.length≤100000):Con Try.prog 14 [qbh cs,jjc p,ints goal] (iv (qcd cs p goal)):=by
 have hi1:=qqu (c:=goal) (by omega)
 have hi2:=qqt cs (by omega) (fun d hd=>zt (hc d hd) (by decide))
 rw [qxj] at hi2
 by_cases h:rightB goal=true∧cs.all rightB=true
 ·have hst:=qxi cs h.2 (by omega) hc
  have hng:=qmq goal (by omega)
  rw [h.1] at hng
  simp only [cond_true,zbi] at hng
  obtain ⟨nf,hD,hlen⟩:=qmi h.2 (by omega) hc
  have hf:qcd cs p goal=if (linesK (qal cs) 0 p).1=0 then (if ((linesK (qal cs) 0 p).2.ask (normL goal) (qu (normL goal))).2 then 0 else (p.length:Int)+1) else (linesK (qal cs) 0 p).1:=by unfold qcd;rw [za h]
  rw [h.1] at hi1
  rw [h.2] at hi2
  have hI0:LnI (qal cs) p 0 (qal cs):=⟨xa _,rfl,⟨cs,nf,hD⟩,by omega⟩
  generalize qal cs=k0 at *
  generalize qcd cs p goal=R at hf ⊢
  replace hD:=Hid.in hD
  replace hf:=Hid.in hf
  refine zK {} 300 Try.func14 (fun c0 rdb=>?_)
  (repeat' ((conv=>whnf);first|refine zO ?_|refine Ob.auto ?_|(refine Ob.intro (by (first|first|exact ⟨by omega,by omega⟩|(simp only [zf];omega))) ?_)|(apply zB <;> intro hb <;> (try simp [-zd] at hb) <;> try (exfalso;omega))|refine Ob.intro ?_ ?_))
  ((conv=>whnf);refine qbi (fun _=>rfl) 300 hi1 (by rfl) ⟨Le.slc rfl (fun i hi=>qdh goal (Nat.lt_one_iff.1 hi)),trivial⟩ (by kernel_rfl) ?_)
  (repeat' ((conv=>whnf);first|refine zO ?_|refine Ob.auto ?_|(refine Ob.intro (by (first|first|exact ⟨by omega,by omega⟩|(simp only [zf];omega))) ?_)|refine zC 300 (hi2) ?_|refine zG 300 (fun hg=>hi2) ?_|(refine CallY.con (hi2) (by rfl) leA ?_)|(refine CallZ.con (fun hg=>hi2) qp (by rfl) ?_)|(refine qv (fun _=>rfl) 300 (hi2) qd (by (repeat' (first|exact trivial|exact Le.refl _|(refine And.intro ?_ ?_))) <;> fail) (by rfl) (by kernel_rfl) ?_)|(refine qw (fun _=>rfl) 300 (fun hg=>hi2) (fun hg=>qd) (fun hg=>(by (repeat' (first|exact trivial|exact Le.refl _|exact Le.cnd hg|(refine And.intro ?_ ?_))) <;> fail)) (by rfl) (by kernel_rfl) ?_)|(apply zB <;> intro hb <;> (try simp [-zd] at hb) <;> try (exfalso;omega))|refine Ob.intro ?_ ?_))
  ((conv=>whnf);refine ji (fun _=>rfl) 300 [] hst (by kernel_rfl) leA qa (by exact qcr rfl) (by exact qxk k0) (by kernel_rfl) ?_)
  replace hst:=Hid.in hst
  (repeat' ((conv=>whnf);first|refine zO ?_|refine Ob.auto ?_|(refine Ob.intro (by (first|first|exact ⟨by omega,by omega⟩|(simp only [zf];omega))) ?_)|(apply zB <;> intro hb <;> (try simp [-zd] at hb) <;> try (exfalso;omega))|refine Ob.intro ?_ ?_))
  ((conv=>whnf);refine jk (fun _=>rfl) 300 1 (fun g:Nat × K=>[(23,iv g.1)]) (fun g=>stP g.2) (fun g=>LnI k0 p g.1 g.2) (fun g=>p.length - g.1) ((0,k0)) (hI0) qa (by (unfold stP stK boxK;repeat' (first|exact trivial|exact rfl|exact Le.refl _|exact SoLe.refl _|exact fun _ _=>LeL.refl _|exact fun _ _ _ _=>LeL.refl _|refine And.intro ?_ ?_))) (fun _=>rfl) (by kernel_rfl) ?_;(conv=>whnf))
  rintro ⟨i,k⟩ hI
  dsimp only at hI ⊢
  obtain ⟨hle,he,⟨th,nf',hDk⟩,hlk⟩:=hI
  by_cases hil:i<p.length
  ·have hcl:=hp _ (qg (d:=⟨false,[]⟩) hil)
   have hic:=qqu (c:=(p.getD i ⟨false,[]⟩).c) (by omega)
   rw [jje hil,jjf] at he
   by_cases hr:rightB (p.getD i ⟨false,[]⟩).c=true
   ·rw [za hr] at he
    have hnc:=qmq (p.getD i ⟨false,[]⟩).c (by omega)
    rw [hr] at hic hnc
    simp only [cond_true,zbi] at hnc
    have hnr:=qds hr
    have hnl:=zt (qfm (p.getD i ⟨false,[]⟩).c) hcl
    have hid:=(qlb (qdg hr)).trans (qpz (qdg hr))
    cases hdel:(p.getD i ⟨false,[]⟩).del with
    | true=>
     rw [za hdel] at he
     have hrt:=jhy k hDk.I hDk.L (normL (p.getD i ⟨false,[]⟩).c) hnr hnl (jjd hDk hr)
     have hdr:=qwo hDk hr
     (repeat' ((conv=>whnf);first|refine zO ?_|refine Ob.auto ?_|(refine Ob.intro (by (first|first|exact ⟨by omega,by omega⟩|(simp only [zf];omega)|exact ⟨⟨rfl,rfl⟩,zg _,Int.ofNat_lt.2 hil⟩|exact ⟨⟨rfl,rfl⟩,hil⟩)) ?_)|(apply zB <;> intro hb <;> (try simp [-zd] at hb) <;> try (exfalso;omega))|refine Ob.intro ?_ ?_))
     ((conv=>whnf);refine qbi (fun _=>rfl) 300 hic (by rfl) ⟨Le.slc rfl (fun i hi=>qdh _ (Nat.lt_one_iff.1 hi)),trivial⟩ (by kernel_rfl) ?_)
     replace hdr:=Hid.in hdr
     replace hDk:=Hid.in hDk
     replace hid:=Hid.in hid
     replace he:=Hid.in he
     (repeat' ((conv=>whnf);first|refine zO ?_|refine Ob.auto ?_|(refine Ob.intro (by (first|first|exact ⟨by omega,by omega⟩|(simp only [zf];omega)|exact ⟨⟨rfl,rfl⟩,zg _,Int.ofNat_lt.2 hil⟩|exact ⟨⟨rfl,rfl⟩,hil⟩)) ?_)|refine zC 300 (hnc) ?_|refine zG 300 (fun hg=>hnc) ?_|(refine CallY.con (hnc) (by rfl) leA ?_)|(refine CallZ.con (fun hg=>hnc) qp (by rfl) ?_)|(refine qv (fun _=>rfl) 300 (hnc) qd (by (repeat' (first|exact trivial|exact Le.refl _|(refine And.intro ?_ ?_))) <;> fail) (by rfl) (by kernel_rfl) ?_)|(refine qw (fun _=>rfl) 300 (fun hg=>hnc) (fun hg=>qd) (fun hg=>(by (repeat' (first|exact trivial|exact Le.refl _|exact Le.cnd hg|(refine And.intro ?_ ?_))) <;> fail)) (by rfl) (by kernel_rfl) ?_)|(apply zB <;> intro hb <;> (try simp [-zd] at hb) <;> try (exfalso;omega))|refine Ob.intro ?_ ?_))
     rotate_left
     ·rw [hdel] at hb;cases hb
     replace he:=he.out
     replace hdr:=hdr.out
     generalize k.rem (keyN (normL (p.getD i ⟨false,[]⟩).c))=o at hrt hdr he
     obtain ⟨k2,b2⟩:=o
     ((conv=>whnf);refine ji (fun _=>rfl) 300 [1,3,4,0,2,5,6,7,8,9,10] hrt (by kernel_rfl) leA (by unfold stK boxK;repeat' (first|exact trivial|exact rfl|exact Le.refl _|exact SoLe.refl _|exact fun _ _=>LeL.refl _|exact fun _ _ _ _=>LeL.refl _|refine And.intro ?_ ?_)) (by exact qj k) (by exact qj _) (by kernel_rfl) ?_)
     replace hrt:=Hid.in hrt
     replace hdr:=Hid.in hdr
     cases b2 with
     | false=>
      have hR:R=(i:Int)+1:=by
       rw [hf.out,he]
       exact ze (show ¬ ((i:Int)+1)=0 by omega)
      rw [hR]
      replace he:=Hid.in he
      replace hR:=Hid.in hR
      (repeat' ((conv=>whnf);first|refine zO ?_|refine Ob.auto ?_|(refine Ob.intro (by (first|first|exact ⟨by omega,by omega⟩|(simp only [zf];omega))) ?_)|(apply zB <;> intro hb <;> (try simp [-zd] at hb) <;> try (exfalso;omega))|refine Ob.intro ?_ ?_))
      exact Le.refl _
     | true=>
      have hn:LnI k0 p (i+1) k2:=by
       have hd:=hdr.out
       cases hla:qbp (p.getD i ⟨false,[]⟩).c th with
       | none=>
        rw [hla] at hd
        simp at hd
       | some j=>
        rw [hla] at hd
        obtain ⟨_,h2,h3⟩:=hd
        exact ⟨hil,he,⟨_,_,h2⟩,by simp only at h3;omega⟩
      replace he:=Hid.in he
      (repeat' ((conv=>whnf);first|refine zO ?_|refine Ob.auto ?_|(refine Ob.intro (by (first|first|exact ⟨by omega,by omega⟩|(simp only [zf];omega))) ?_)|(apply zB <;> intro hb <;> (try simp [-zd] at hb) <;> try (exfalso;omega))|refine Ob.intro ?_ ?_))
      ((conv=>whnf);refine ⟨(i+1,k2),hn,⟨(by (repeat' (first|exact trivial|exact rfl|exact Le.refl _|exact SoLe.refl _|refine And.intro ?_ ?_))),(by (unfold stP stK boxK;repeat' (first|exact trivial|exact rfl|exact Le.refl _|exact SoLe.refl _|exact fun _ _=>LeL.refl _|exact fun _ _ _ _=>LeL.refl _|refine And.intro ?_ ?_)))⟩,⟨qa,qa⟩,?_⟩;(first|omega|(dsimp only;omega)|skip))
    | false=>
     rw [ze (by rw [hdel];decide)] at he
     have hat:=qqr k hDk.I (normL (p.getD i ⟨false,[]⟩).c) hnr hnl (qu (normL (p.getD i ⟨false,[]⟩).c))
     obtain ⟨hDa,_,hla⟩:=qmh hDk hr
     (repeat' ((conv=>whnf);first|refine zO ?_|refine Ob.auto ?_|(refine Ob.intro (by (first|first|exact ⟨by omega,by omega⟩|(simp only [zf];omega)|exact ⟨⟨rfl,rfl⟩,zg _,Int.ofNat_lt.2 hil⟩|exact ⟨⟨rfl,rfl⟩,hil⟩)) ?_)|(apply zB <;> intro hb <;> (try simp [-zd] at hb) <;> try (exfalso;omega))|refine Ob.intro ?_ ?_))
     ((conv=>whnf);refine qbi (fun _=>rfl) 300 hic (by rfl) ⟨Le.slc rfl (fun i hi=>qdh _ (Nat.lt_one_iff.1 hi)),trivial⟩ (by kernel_rfl) ?_)
     replace hDk:=Hid.in hDk
     replace hDa:=Hid.in hDa
     replace hid:=Hid.in hid
     replace he:=Hid.in he
     (repeat' ((conv=>whnf);first|refine zO ?_|refine Ob.auto ?_|(refine Ob.intro (by (first|first|exact ⟨by omega,by omega⟩|(simp only [zf];omega)|exact ⟨⟨rfl,rfl⟩,zg _,Int.ofNat_lt.2 hil⟩|exact ⟨⟨rfl,rfl⟩,hil⟩)) ?_)|refine zC 300 (hnc) ?_|refine zG 300 (fun hg=>hnc) ?_|(refine CallY.con (hnc) (by rfl) leA ?_)|(refine CallZ.con (fun hg=>hnc) qp (by rfl) ?_)|(refine qv (fun _=>rfl) 300 (hnc) qd (by (repeat' (first|exact trivial|exact Le.refl _|(refine And.intro ?_ ?_))) <;> fail) (by rfl) (by kernel_rfl) ?_)|(refine qw (fun _=>rfl) 300 (fun hg=>hnc) (fun hg=>qd) (fun hg=>(by (repeat' (first|exact trivial|exact Le.refl _|exact Le.cnd hg|(refine And.intro ?_ ?_))) <;> fail)) (by rfl) (by kernel_rfl) ?_)|(apply zB <;> intro hb <;> (try simp [-zd] at hb) <;> try (exfalso;omega))|refine Ob.intro ?_ ?_))
     ·rw [hdel] at hb;cases hb
     replace he:=he.out
     generalize k.ask (normL (p.getD i ⟨false,[]⟩).c) (qu (normL (p.getD i ⟨false,[]⟩).c))=o at hat hDa hla he
     obtain ⟨k2,b2⟩:=o
     simp only at hla
     ((conv=>whnf);refine ji (fun _=>rfl) 300 [1,3,4,0,2,5,6,7,8,9,10] hat (by kernel_rfl) leA (by unfold stK boxK;repeat' (first|exact trivial|exact rfl|exact Le.refl _|exact SoLe.refl _|exact fun _ _=>LeL.refl _|exact fun _ _ _ _=>LeL.refl _|refine And.intro ?_ ?_)) (by exact qj k) (by exact qj _) (by kernel_rfl) ?_)
     replace hat:=Hid.in hat
     cases b2 with
     | false=>
      have hR:R=(i:Int)+1:=by
       rw [hf.out,he]
       exact ze (show ¬ ((i:Int)+1)=0 by omega)
      rw [hR]
      replace he:=Hid.in he
      replace hR:=Hid.in hR
      (repeat' ((conv=>whnf);first|refine zO ?_|refine Ob.auto ?_|(refine Ob.intro (by (first|first|exact ⟨by omega,by omega⟩|(simp only [zf];omega))) ?_)|(apply zB <;> intro hb <;> (try simp [-zd] at hb) <;> try (exfalso;omega))|refine Ob.intro ?_ ?_))
      exact Le.refl _
     | true=>
      replace he:linesK k0 0 p=linesK (k2.add (normL (p.getD i ⟨false,[]⟩).c) (qu (normL (p.getD i ⟨false,[]⟩).c))) (i+1) (p.drop (i+1)):=he
      have hDa':Doc th k2 nf':=hDa.out
      obtain ⟨h4,h5⟩:=qqh hDa' hr (by omega) hcl
      have hn:LnI k0 p (i+1) (k2.add (normL (p.getD i ⟨false,[]⟩).c) (qu (normL (p.getD i ⟨false,[]⟩).c))):=⟨hil,he,⟨_,_,h4⟩,by omega⟩
      have had:=qxb k2 hDa'.I hDa'.L (qxh hDa') (normL (p.getD i ⟨false,[]⟩).c) hnr hnl (by omega) (qu (normL (p.getD i ⟨false,[]⟩).c)) hid.out (qqg _)
      replace he:=Hid.in he
      replace h4:=Hid.in h4
      replace hDa':=Hid.in hDa'
      replace hn:=Hid.in hn
      (repeat' ((conv=>whnf);first|refine zO ?_|refine Ob.auto ?_|(refine Ob.intro (by (first|first|exact ⟨by omega,by omega⟩|(simp only [zf];omega))) ?_)|(apply zB <;> intro hb <;> (try simp [-zd] at hb) <;> try (exfalso;omega))|refine Ob.intro ?_ ?_))
      ((conv=>whnf);refine ji (fun _=>rfl) 300 [1,3,4,0,2,5,6,7,8,9,10] had (by kernel_rfl) leA (by unfold stK boxK;repeat' (first|exact trivial|exact rfl|exact Le.refl _|exact SoLe.refl _|exact fun _ _=>LeL.refl _|exact fun _ _ _ _=>LeL.refl _|refine And.intro ?_ ?_)) (by exact qj k2) (by exact qj _) (by kernel_rfl) ?_)
      replace had:=Hid.in had
      (repeat' ((conv=>whnf);first|refine zO ?_|refine Ob.auto ?_|(refine Ob.intro (by (first|first|exact ⟨by omega,by omega⟩|(simp only [zf];omega))) ?_)|(apply zB <;> intro hb <;> (try simp [-zd] at hb) <;> try (exfalso;omega))|refine Ob.intro ?_ ?_))
      ((conv=>whnf);refine ⟨(i+1,k2.add (normL (p.getD i ⟨false,[]⟩).c) (qu (normL (p.getD i ⟨false,[]⟩).c))),hn.out,⟨(by (repeat' (first|exact trivial|exact rfl|exact Le.refl _|exact SoLe.refl _|refine And.intro ?_ ?_))),(by (unfold stP stK boxK;repeat' (first|exact trivial|exact rfl|exact Le.refl _|exact SoLe.refl _|exact fun _ _=>LeL.refl _|exact fun _ _ _ _=>LeL.refl _|refine And.intro ?_ ?_)))⟩,⟨qa,qa⟩,?_⟩;(first|omega|(dsimp only;omega)|skip))
   ·rw [ze hr] at he
    have hR:R=(i:Int)+1:=by
     rw [hf.out,he]
     exact ze (show ¬ ((i:Int)+1)=0 by omega)
    rw [hR]
    replace he:=Hid.in he
    rw [Bool.not_eq_true] at hr
    rw [hr] at hic
    (repeat' ((conv=>whnf);first|refine zO ?_|refine Ob.auto ?_|(refine Ob.intro (by (first|first|exact ⟨by omega,by omega⟩|(simp only [zf];omega)|exact ⟨⟨rfl,rfl⟩,zg _,Int.ofNat_lt.2 hil⟩|exact ⟨⟨rfl,rfl⟩,hil⟩)) ?_)|(apply zB <;> intro hb <;> (try simp [-zd] at hb) <;> try (exfalso;omega))|refine Ob.intro ?_ ?_))
    ((conv=>whnf);refine qbi (fun _=>rfl) 300 hic (by rfl) ⟨Le.slc rfl (fun i hi=>qdh _ (Nat.lt_one_iff.1 hi)),trivial⟩ (by kernel_rfl) ?_)
    (repeat' ((conv=>whnf);first|refine zO ?_|refine Ob.auto ?_|(refine Ob.intro (by (first|first|exact ⟨by omega,by omega⟩|(simp only [zf];omega)|exact ⟨⟨rfl,rfl⟩,zg _,Int.ofNat_lt.2 hil⟩|exact ⟨⟨rfl,rfl⟩,hil⟩)) ?_)|(apply zB <;> intro hb <;> (try simp [-zd] at hb) <;> try (exfalso;omega))|refine Ob.intro ?_ ?_))
    exact Le.refl _
  ·obtain rfl:i=p.length:=by omega
   have hR:R=if (k.ask (normL goal) (qu (normL goal))).2 then 0 else (p.length:Int)+1:=by
    rw [hf.out,he,List.drop_length]
    exact za rfl
   have hat:=qqr k hDk.I (normL goal) (qds h.1) (zt (qfm _) hg) (qu (normL goal))
   rw [hR]
   replace hR:=Hid.in hR
   replace hDk:=Hid.in hDk
   replace he:=Hid.in he
   (repeat' ((conv=>whnf);first|refine zO ?_|refine Ob.auto ?_|(refine Ob.intro (by (first|first|exact ⟨by omega,by omega⟩|(simp only [zf];omega))) ?_)|refine zC 300 (hng) ?_|refine zG 300 (fun hg=>hng) ?_|(refine CallY.con (hng) (by rfl) leA ?_)|(refine CallZ.con (fun hg=>hng) qp (by rfl) ?_)|(refine qv (fun _=>rfl) 300 (hng) qd (by (repeat' (first|exact trivial|exact Le.refl _|(refine And.intro ?_ ?_))) <;> fail) (by rfl) (by kernel_rfl) ?_)|(refine qw (fun _=>rfl) 300 (fun hg=>hng) (fun hg=>qd) (fun hg=>(by (repeat' (first|exact trivial|exact Le.refl _|exact Le.cnd hg|(refine And.intro ?_ ?_))) <;> fail)) (by rfl) (by kernel_rfl) ?_)|(apply zB <;> intro hb <;> (try simp [-zd] at hb) <;> try (exfalso;omega))|refine Ob.intro ?_ ?_))
   ((conv=>whnf);refine ji (fun _=>rfl) 300 [1,3,4,0,2,5,6,7,8,9,10] hat (by kernel_rfl) leA (by unfold stK boxK;repeat' (first|exact trivial|exact rfl|exact Le.refl _|exact SoLe.refl _|exact fun _ _=>LeL.refl _|exact fun _ _ _ _=>LeL.refl _|refine And.intro ?_ ?_)) (by exact qj k) (by exact qj _) (by kernel_rfl) ?_)
   generalize k.ask (normL goal) (qu (normL goal))=o at *
   obtain ⟨k2,b2⟩:=o
   replace hat:=Hid.in hat
   cases b2 with
   | false=>
    (repeat' ((conv=>whnf);first|refine zO ?_|refine Ob.auto ?_|(refine Ob.intro (by (first|first|exact ⟨by omega,by omega⟩|(simp only [zf];omega))) ?_)|(apply zB <;> intro hb <;> (try simp [-zd] at hb) <;> try (exfalso;omega))|refine Ob.intro ?_ ?_))
    exact Le.refl _
   | true=>
    (repeat' ((conv=>whnf);first|refine zO ?_|refine Ob.auto ?_|(refine Ob.intro (by (first|first|exact ⟨by omega,by omega⟩|(simp only [zf];omega))) ?_)|(apply zB <;> intro hb <;> (try simp [-zd] at hb) <;> try (exfalso;omega))|refine Ob.intro ?_ ?_))
    exact Le.refl _
 ·have hf:qcd cs p goal=-1:=by unfold qcd;rw [ze h]
  rw [hf]
  cases h1:rightB goal with
  | false=>
   rw [h1] at hi1
   refine zK {} 300 Try.func14 (fun c0 rdb=>?_)
   (repeat' ((conv=>whnf);first|refine zO ?_|refine Ob.auto ?_|(refine Ob.intro (by (first|first|exact ⟨by omega,by omega⟩|(simp only [zf];omega))) ?_)|(apply zB <;> intro hb <;> (try simp [-zd] at hb) <;> try (exfalso;omega))|refine Ob.intro ?_ ?_))
   ((conv=>whnf);refine qbi (fun _=>rfl) 300 hi1 (by rfl) ⟨Le.slc rfl (fun i hi=>qdh goal (Nat.lt_one_iff.1 hi)),trivial⟩ (by kernel_rfl) ?_)
   (repeat' ((conv=>whnf);first|refine zO ?_|refine Ob.auto ?_|(refine Ob.intro (by (first|first|exact ⟨by omega,by omega⟩|(simp only [zf];omega))) ?_)|refine zC 300 (hi2) ?_|refine zG 300 (fun hg=>hi2) ?_|(refine CallY.con (hi2) (by rfl) leA ?_)|(refine CallZ.con (fun hg=>hi2) qp (by rfl) ?_)|(refine qv (fun _=>rfl) 300 (hi2) qd (by (repeat' (first|exact trivial|exact Le.refl _|(refine And.intro ?_ ?_))) <;> fail) (by rfl) (by kernel_rfl) ?_)|(refine qw (fun _=>rfl) 300 (fun hg=>hi2) (fun hg=>qd) (fun hg=>(by (repeat' (first|exact trivial|exact Le.refl _|exact Le.cnd hg|(refine And.intro ?_ ?_))) <;> fail)) (by rfl) (by kernel_rfl) ?_)|(apply zB <;> intro hb <;> (try simp [-zd] at hb) <;> try (exfalso;omega))|refine Ob.intro ?_ ?_))
   exact Le.refl _
  | true=>
   have h2:cs.all rightB=false:=by
    cases h2:cs.all rightB with
    | false=>rfl
    | true=>exact absurd ⟨h1,h2⟩ h
   rw [h1] at hi1
   rw [h2] at hi2
   refine zK {} 300 Try.func14 (fun c0 rdb=>?_)
   (repeat' ((conv=>whnf);first|refine zO ?_|refine Ob.auto ?_|(refine Ob.intro (by (first|first|exact ⟨by omega,by omega⟩|(simp only [zf];omega))) ?_)|(apply zB <;> intro hb <;> (try simp [-zd] at hb) <;> try (exfalso;omega))|refine Ob.intro ?_ ?_))
   ((conv=>whnf);refine qbi (fun _=>rfl) 300 hi1 (by rfl) ⟨Le.slc rfl (fun i hi=>qdh goal (Nat.lt_one_iff.1 hi)),trivial⟩ (by kernel_rfl) ?_)
   (repeat' ((conv=>whnf);first|refine zO ?_|refine Ob.auto ?_|(refine Ob.intro (by (first|first|exact ⟨by omega,by omega⟩|(simp only [zf];omega))) ?_)|refine zC 300 (hi2) ?_|refine zG 300 (fun hg=>hi2) ?_|(refine CallY.con (hi2) (by rfl) leA ?_)|(refine CallZ.con (fun hg=>hi2) qp (by rfl) ?_)|(refine qv (fun _=>rfl) 300 (hi2) qd (by (repeat' (first|exact trivial|exact Le.refl _|(refine And.intro ?_ ?_))) <;> fail) (by rfl) (by kernel_rfl) ?_)|(refine qw (fun _=>rfl) 300 (fun hg=>hi2) (fun hg=>qd) (fun hg=>(by (repeat' (first|exact trivial|exact Le.refl _|exact Le.cnd hg|(refine And.intro ?_ ?_))) <;> fail)) (by rfl) (by kernel_rfl) ?_)|(apply zB <;> intro hb <;> (try simp [-zd] at hb) <;> try (exfalso;omega))|refine Ob.intro ?_ ?_))
   exact Le.refl _
end Go.Proofs.Ytkhdldncbmkidaa
