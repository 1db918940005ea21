/- Some texts of the library, one behind the other. -/
import Derived.Test.YtkhdldncbmkidaaY4RuWF
import Derived.Test.YtkhdldncbmkidaaY4Cn4
import Derived.Test.YtkhdldncbmkidaaY421
import Derived.Test.YtkhdldncbmkidaaY42
set_option linter.unusedSimpArgs false
set_option linter.unusedVariables false
section
namespace Go.Proofs.Ytkhdldncbmkidaa
open List renaming getD_eq_getElem?_getD → zd
open Go Go.Sx Go.RowKit Go.Ru Go.Cl Go.St
set_option maxRecDepth 100000
set_option maxHeartbeats 8000000
theorem jiz (c:List Int) (hl:c.length≤1000000):Con Try.prog 36 [ints c] (.bool (!rightB c)):=by
 have hc:=qmk c hl
 refine zK {} 300 Try.func36 (fun c0 rdb=>?_)
 (repeat' ((conv=>whnf);first|refine zA ?_|refine zO ?_|refine Ob.auto ?_|refine zC 300 (hc) ?_|refine zG 300 (fun hg=>hc) ?_|(refine CallY.con (hc) (by rfl) leA ?_)|(refine CallZ.con (fun hg=>hc) qp (by rfl) ?_)|(refine qv (fun _=>rfl) 300 (hc) qd (by (repeat' (first|exact trivial|exact Le.refl _|(refine And.intro ?_ ?_))) <;> fail) (by rfl) (by kernel_rfl) ?_)|(refine qw (fun _=>rfl) 300 (fun hg=>hc) (fun hg=>qd) (fun hg=>(by (repeat' (first|exact trivial|exact Le.refl _|exact Le.cnd hg|(refine And.intro ?_ ?_))) <;> fail)) (by rfl) (by kernel_rfl) ?_)|refine zD 300 ?_|(apply zB <;> intro hb <;> (try simp [-zd] at hb) <;> try (exfalso;omega))|refine Ob.intro ?_ ?_))
 exact Le.refl _
theorem jja  (l:List (List Int)) (hl:l.length≤1000000) (hm:∀ c∈l,c.length≤1000000):Con Try.prog 58 [qbh l,.fn 36 []] (iv (idx (fun x=>!rightB x) l)):=by
 refine zK {} 300 Try.func58 (fun c0 rdb=>?_)
 (repeat' ((conv=>whnf);first|refine zA ?_|refine zO ?_|refine Ob.auto ?_|refine zD 300 ?_|(apply zB <;> intro hb <;> (try simp [-zd] at hb) <;> try (exfalso;omega))|refine Ob.intro ?_ ?_))
 ((conv=>whnf);refine jk (fun _=>rfl) 300 1 (fun i:Nat=>[(8,iv i)]) (fun _=>[]) (fun i=>i≤l.length∧∀ j,j<i→(fun x=>!rightB x) (l.getD j [])=false) (fun i=>l.length - i) (0) (⟨by omega,fun j hj=>absurd hj (zu j)⟩) qa qa (fun _=>rfl) (by kernel_rfl) ?_;(conv=>whnf))
 intro i hi
 by_cases hil:i<l.length
 ·have hc:=jiz (l.getD i []) (hm _ (qgr l i [] (by omega)))
  (repeat' ((conv=>whnf);first|refine zA ?_|refine zO ?_|refine Ob.auto ?_|refine zC 300 (hc) ?_|refine zG 300 (fun hg=>hc) ?_|(refine CallY.con (hc) (by rfl) leA ?_)|(refine CallZ.con (fun hg=>hc) qp (by rfl) ?_)|(refine qv (fun _=>rfl) 300 (hc) qd (by (repeat' (first|exact trivial|exact Le.refl _|(refine And.intro ?_ ?_))) <;> fail) (by rfl) (by kernel_rfl) ?_)|(refine qw (fun _=>rfl) 300 (fun hg=>hc) (fun hg=>qd) (fun hg=>(by (repeat' (first|exact trivial|exact Le.refl _|exact Le.cnd hg|(refine And.intro ?_ ?_))) <;> fail)) (by rfl) (by kernel_rfl) ?_)|refine zD 300 ?_|(apply zB <;> intro hb <;> (try simp [-zd] at hb) <;> try (exfalso;omega))|refine Ob.intro ?_ ?_))
  ·refine Le.of_eq (congrArg (AV.int _) ?_)
   exact (qua _ l [] i (by omega) (by simp [-zd,hb]) hi.2).symm
  ·((conv=>whnf);refine ⟨i+1,⟨by omega,qkx hi.2 (by first|(simp [-zd,hb];done)|(simp [-zd,];exact hb))⟩,⟨qa,qa⟩,⟨qa,qa⟩,?_⟩;(first|omega|(dsimp only;omega)|skip))
 ·(repeat' ((conv=>whnf);first|refine zA ?_|refine zO ?_|refine Ob.auto ?_|refine zD 300 ?_|(apply zB <;> intro hb <;> (try simp [-zd] at hb) <;> try (exfalso;omega))|refine Ob.intro ?_ ?_))
  refine Le.of_eq (congrArg (AV.int _) ?_)
  exact (qub _ l [] (fun j hj=>hi.2 j (by omega))).symm
theorem jjb  (l:List (List Int)) (hl:l.length≤1000000) (hm:∀ c∈l,c.length≤1000000):Con Try.prog 35 [qbh l,.fn 36 []] (.bool (l.any fun x=>!rightB x)):=by
 have hc:=jja  l hl hm
 refine zK {} 300 Try.func35 (fun c0 rdb=>?_)
 (repeat' ((conv=>whnf);first|refine zA ?_|refine zO ?_|refine Ob.auto ?_|refine zC 300 (hc) ?_|refine zG 300 (fun hg=>hc) ?_|(refine CallY.con (hc) (by rfl) leA ?_)|(refine CallZ.con (fun hg=>hc) qp (by rfl) ?_)|(refine qv (fun _=>rfl) 300 (hc) qd (by (repeat' (first|exact trivial|exact Le.refl _|(refine And.intro ?_ ?_))) <;> fail) (by rfl) (by kernel_rfl) ?_)|(refine qw (fun _=>rfl) 300 (fun hg=>hc) (fun hg=>qd) (fun hg=>(by (repeat' (first|exact trivial|exact Le.refl _|exact Le.cnd hg|(refine And.intro ?_ ?_))) <;> fail)) (by rfl) (by kernel_rfl) ?_)|refine zD 300 ?_|(apply zB <;> intro hb <;> (try simp [-zd] at hb) <;> try (exfalso;omega))|refine Ob.intro ?_ ?_))
 refine Le.of_eq (congrArg AV.bool ?_)
 exact quf _ l
theorem qqt (cs:List (List Int)) (hl:cs.length≤1000000) (hm:∀ c∈cs,c.length≤1000000):Con Try.prog 20 [qbh cs] (.bool (cs.any fun x=>!rightB x)):=by
 have hc:=jjb cs hl hm
 refine zK {} 300 Try.func20 (fun c0 rdb=>?_)
 (repeat' ((conv=>whnf);first|refine zA ?_|refine zO ?_|refine Ob.auto ?_|refine zC 300 (hc) ?_|refine zG 300 (fun hg=>hc) ?_|(refine CallY.con (hc) (by rfl) leA ?_)|(refine CallZ.con (fun hg=>hc) qp (by rfl) ?_)|(refine qv (fun _=>rfl) 300 (hc) qd (by (repeat' (first|exact trivial|exact Le.refl _|(refine And.intro ?_ ?_))) <;> fail) (by rfl) (by kernel_rfl) ?_)|(refine qw (fun _=>rfl) 300 (fun hg=>hc) (fun hg=>qd) (fun hg=>(by (repeat' (first|exact trivial|exact Le.refl _|exact Le.cnd hg|(refine And.intro ?_ ?_))) <;> fail)) (by rfl) (by kernel_rfl) ?_)|refine zD 300 ?_|(apply zB <;> intro hb <;> (try simp [-zd] at hb) <;> try (exfalso;omega))|refine Ob.intro ?_ ?_))
 exact Le.refl _
theorem qqu {c:List Int} (hl:c.length≤1000000):Con Try.prog 20 [qbh [c]] (.bool (!rightB c)):=by
 have h:=qqt [c] (by simp) (fun d hd=>by rw [zk] at hd;subst hd;exact hl)
 rw [show ([c].any fun x=>!rightB x)=!rightB c by simp] at h
 exact h
theorem qxj (cs:List (List Int)):(cs.any fun x=>!rightB x)=!cs.all rightB:=by
 rw [List.all_eq_not_any_not,Bool.not_not]
theorem qxk (k:K):rowsLt 11 (stP k):=qil ⟨fun _ _=>rfl,fun _ _=>rfl,trivial⟩
theorem qxl (cs:List (List Int)) (c:List Int) (hl:cs.length≤100000) (hc:∀ d∈cs,d.length≤100000) (hcl:c.length≤100000):Con Try.prog 10 [qbh cs,ints c] (.bool (qdu cs c)):=by
 have hi1:=qqu (c:=c) (by omega)
 have hi2:=qqt cs (by omega) (fun d hd=>zt (hc d hd) (by decide))
 rw [qxj] at hi2
 by_cases h:rightB c=true∧cs.all rightB=true
 ·have hst:=qxi cs h.2 hl hc
  have hnc:=qmq c (by omega)
  rw [h.1] at hnc
  simp only [cond_true,zbi] at hnc
  obtain ⟨nf,hD,_⟩:=qmi h.2 hl hc
  have hat:=qqr (qal cs) hD.I (normL c) (qds h.1) (zt (qfm _) hcl) (qu (normL c))
  have hf:qdu cs c=((qal cs).ask (normL c) (qu (normL c))).2:=by unfold qdu;rw [za h]
  rw [hf]
  rw [h.1] at hi1
  rw [h.2] at hi2
  generalize qal cs=k0 at *
  replace hf:=Hid.in hf
  replace hD:=Hid.in hD
  refine zK {} 300 Try.func10 (fun c0 rdb=>?_)
  (repeat' ((conv=>whnf);first|refine zO ?_|refine Ob.auto ?_|(refine Ob.intro (by (first|first|exact ⟨by omega,by omega⟩|(simp only [zf];omega))) ?_)|(apply zB <;> intro hb <;> (try simp [-zd] at hb) <;> try (exfalso;omega))|refine Ob.intro ?_ ?_))
  ((conv=>whnf);refine qbi (fun _=>rfl) 300 hi1 (by rfl) ⟨Le.slc rfl (fun i hi=>qdh c (Nat.lt_one_iff.1 hi)),trivial⟩ (by kernel_rfl) ?_)
  (repeat' ((conv=>whnf);first|refine zO ?_|refine Ob.auto ?_|(refine Ob.intro (by (first|first|exact ⟨by omega,by omega⟩|(simp only [zf];omega))) ?_)|refine zC 300 (hi2) ?_|refine zG 300 (fun hg=>hi2) ?_|(refine CallY.con (hi2) (by rfl) leA ?_)|(refine CallZ.con (fun hg=>hi2) qp (by rfl) ?_)|refine zC 300 (hnc) ?_|refine zG 300 (fun hg=>hnc) ?_|(refine CallY.con (hnc) (by rfl) leA ?_)|(refine CallZ.con (fun hg=>hnc) qp (by rfl) ?_)|(refine qv (fun _=>rfl) 300 (hi2) qd (by (repeat' (first|exact trivial|exact Le.refl _|(refine And.intro ?_ ?_))) <;> fail) (by rfl) (by kernel_rfl) ?_)|(refine qw (fun _=>rfl) 300 (fun hg=>hi2) (fun hg=>qd) (fun hg=>(by (repeat' (first|exact trivial|exact Le.refl _|exact Le.cnd hg|(refine And.intro ?_ ?_))) <;> fail)) (by rfl) (by kernel_rfl) ?_)|(refine qv (fun _=>rfl) 300 (hnc) qd (by (repeat' (first|exact trivial|exact Le.refl _|(refine And.intro ?_ ?_))) <;> fail) (by rfl) (by kernel_rfl) ?_)|(refine qw (fun _=>rfl) 300 (fun hg=>hnc) (fun hg=>qd) (fun hg=>(by (repeat' (first|exact trivial|exact Le.refl _|exact Le.cnd hg|(refine And.intro ?_ ?_))) <;> fail)) (by rfl) (by kernel_rfl) ?_)|(apply zB <;> intro hb <;> (try simp [-zd] at hb) <;> try (exfalso;omega))|refine Ob.intro ?_ ?_))
  ((conv=>whnf);refine ji (fun _=>rfl) 300 [] hst (by kernel_rfl) leA qa (by exact qcr rfl) (by exact qxk k0) (by kernel_rfl) ?_)
  replace hst:=Hid.in hst
  (repeat' ((conv=>whnf);first|refine zO ?_|refine Ob.auto ?_|(refine Ob.intro (by (first|first|exact ⟨by omega,by omega⟩|(simp only [zf];omega))) ?_)|refine zC 300 (hnc) ?_|refine zG 300 (fun hg=>hnc) ?_|(refine CallY.con (hnc) (by rfl) leA ?_)|(refine CallZ.con (fun hg=>hnc) qp (by rfl) ?_)|(refine qv (fun _=>rfl) 300 (hnc) qd (by (repeat' (first|exact trivial|exact Le.refl _|(refine And.intro ?_ ?_))) <;> fail) (by rfl) (by kernel_rfl) ?_)|(refine qw (fun _=>rfl) 300 (fun hg=>hnc) (fun hg=>qd) (fun hg=>(by (repeat' (first|exact trivial|exact Le.refl _|exact Le.cnd hg|(refine And.intro ?_ ?_))) <;> fail)) (by rfl) (by kernel_rfl) ?_)|(apply zB <;> intro hb <;> (try simp [-zd] at hb) <;> try (exfalso;omega))|refine Ob.intro ?_ ?_))
  ((conv=>whnf);refine ji (fun _=>rfl) 300 [1,3,4,0,2,5,6,7,8,9,10] hat (by kernel_rfl) leA (by exact qqs k0) (by exact qj k0) (by exact qj _) (by kernel_rfl) ?_)
  replace hat:=Hid.in hat
  (repeat' ((conv=>whnf);first|refine zO ?_|refine Ob.auto ?_|(refine Ob.intro (by (first|first|exact ⟨by omega,by omega⟩|(simp only [zf];omega))) ?_)|(apply zB <;> intro hb <;> (try simp [-zd] at hb) <;> try (exfalso;omega))|refine Ob.intro ?_ ?_))
  exact Le.refl _
 ·have hf:qdu cs c=false:=by unfold qdu;rw [ze h]
  rw [hf]
  cases h1:rightB c with
  | false=>
   rw [h1] at hi1
   refine zK {} 300 Try.func10 (fun c0 rdb=>?_)
   (repeat' ((conv=>whnf);first|refine zO ?_|refine Ob.auto ?_|(refine Ob.intro (by (first|first|exact ⟨by omega,by omega⟩|(simp only [zf];omega))) ?_)|(apply zB <;> intro hb <;> (try simp [-zd] at hb) <;> try (exfalso;omega))|refine Ob.intro ?_ ?_))
   ((conv=>whnf);refine qbi (fun _=>rfl) 300 hi1 (by rfl) ⟨Le.slc rfl (fun i hi=>qdh c (Nat.lt_one_iff.1 hi)),trivial⟩ (by kernel_rfl) ?_)
   (repeat' ((conv=>whnf);first|refine zO ?_|refine Ob.auto ?_|(refine Ob.intro (by (first|first|exact ⟨by omega,by omega⟩|(simp only [zf];omega))) ?_)|refine zC 300 (hi2) ?_|refine zG 300 (fun hg=>hi2) ?_|(refine CallY.con (hi2) (by rfl) leA ?_)|(refine CallZ.con (fun hg=>hi2) qp (by rfl) ?_)|(refine qv (fun _=>rfl) 300 (hi2) qd (by (repeat' (first|exact trivial|exact Le.refl _|(refine And.intro ?_ ?_))) <;> fail) (by rfl) (by kernel_rfl) ?_)|(refine qw (fun _=>rfl) 300 (fun hg=>hi2) (fun hg=>qd) (fun hg=>(by (repeat' (first|exact trivial|exact Le.refl _|exact Le.cnd hg|(refine And.intro ?_ ?_))) <;> fail)) (by rfl) (by kernel_rfl) ?_)|(apply zB <;> intro hb <;> (try simp [-zd] at hb) <;> try (exfalso;omega))|refine Ob.intro ?_ ?_))
   exact Le.refl _
  | true=>
   have h2:cs.all rightB=false:=by
    cases h2:cs.all rightB with
    | false=>rfl
    | true=>exact absurd ⟨h1,h2⟩ h
   rw [h1] at hi1
   rw [h2] at hi2
   refine zK {} 300 Try.func10 (fun c0 rdb=>?_)
   (repeat' ((conv=>whnf);first|refine zO ?_|refine Ob.auto ?_|(refine Ob.intro (by (first|first|exact ⟨by omega,by omega⟩|(simp only [zf];omega))) ?_)|(apply zB <;> intro hb <;> (try simp [-zd] at hb) <;> try (exfalso;omega))|refine Ob.intro ?_ ?_))
   ((conv=>whnf);refine qbi (fun _=>rfl) 300 hi1 (by rfl) ⟨Le.slc rfl (fun i hi=>qdh c (Nat.lt_one_iff.1 hi)),trivial⟩ (by kernel_rfl) ?_)
   (repeat' ((conv=>whnf);first|refine zO ?_|refine Ob.auto ?_|(refine Ob.intro (by (first|first|exact ⟨by omega,by omega⟩|(simp only [zf];omega))) ?_)|refine zC 300 (hi2) ?_|refine zG 300 (fun hg=>hi2) ?_|(refine CallY.con (hi2) (by rfl) leA ?_)|(refine CallZ.con (fun hg=>hi2) qp (by rfl) ?_)|(refine qv (fun _=>rfl) 300 (hi2) qd (by (repeat' (first|exact trivial|exact Le.refl _|(refine And.intro ?_ ?_))) <;> fail) (by rfl) (by kernel_rfl) ?_)|(refine qw (fun _=>rfl) 300 (fun hg=>hi2) (fun hg=>qd) (fun hg=>(by (repeat' (first|exact trivial|exact Le.refl _|exact Le.cnd hg|(refine And.intro ?_ ?_))) <;> fail)) (by rfl) (by kernel_rfl) ?_)|(apply zB <;> intro hb <;> (try simp [-zd] at hb) <;> try (exfalso;omega))|refine Ob.intro ?_ ?_))
   exact Le.refl _
end Go.Proofs.Ytkhdldncbmkidaa
end
section
namespace Go.Proofs.Ytkhdldncbmkidaa
open Go Go.Sx Go.RowKit Go.Ru Go.Cl Go.St
set_option maxRecDepth 100000
set_option maxHeartbeats 8000000
theorem qmr {f:Nat→List AV} {v:Int} (h:f 0=[iv v]):Le (.slc 1 1 f) (ints [v]):=Le.slc rfl (fun i hi=>by obtain rfl:i=0:=(by omega);exact h)
theorem qxm {l:List Int} {i:Nat} (h:i<l.length):l.take (i+1)=l.take i++[l.getD i 0]:=by
 rw [zat,zb h,xc,zb h];rfl
end Go.Proofs.Ytkhdldncbmkidaa
end
