/- Contracts: the package's Follows. -/
import Derived.Test.YtkhdldncbmkidaaY333
import Derived.Test.YtkhdldncbmkidaaY32
set_option linter.unusedSimpArgs false
set_option linter.unusedVariables false
namespace Go.Proofs.Ytkhdldncbmkidaa
open List renaming getD_eq_getElem?_getD → zd
open Go Go.Sx Go.RowKit Go.Ru Go.Cl Go.St
set_option maxRecDepth 100000
set_option maxHeartbeats 8000000
theorem jkn (c:List Int) (hl:c.length≤1000000):Con Try.prog 36 [ints c] (.bool (!rightB c)):=by
 have hc:=qnc c hl
 refine zK {} 300 Try.func36 (fun c0 rdb=>?_)
 (repeat' ((conv=>whnf);first|refine zA ?_|refine zO ?_|refine Ob.auto ?_|refine zC 300 (hc) ?_|refine zG 300 (fun hg=>hc) ?_|(refine CallY.con (hc) (by rfl) leA ?_)|(refine CallZ.con (fun hg=>hc) qf (by rfl) ?_)|(refine qg (fun _=>rfl) 300 (hc) qc (by (repeat' (first|exact trivial|exact Le.refl _|(refine And.intro ?_ ?_))) <;> fail) (by rfl) (by kernel_rfl) ?_)|(refine qi (fun _=>rfl) 300 (fun hg=>hc) (fun hg=>qc) (fun hg=>(by (repeat' (first|exact trivial|exact Le.refl _|exact Le.cnd hg|(refine And.intro ?_ ?_))) <;> fail)) (by rfl) (by kernel_rfl) ?_)|refine zD 300 ?_|(apply zB <;> intro hb <;> (try simp [-zd] at hb) <;> try (exfalso;omega))|refine Ob.intro ?_ ?_))
 exact Le.refl _
theorem jko  (l:List (List Int)) (hl:l.length≤1000000) (hm:∀ c∈l,c.length≤1000000):Con Try.prog 58 [qak l,.fn 36 []] (iv (idx (fun x=>!rightB x) l)):=by
 refine zK {} 300 Try.func58 (fun c0 rdb=>?_)
 (repeat' ((conv=>whnf);first|refine zA ?_|refine zO ?_|refine Ob.auto ?_|refine zD 300 ?_|(apply zB <;> intro hb <;> (try simp [-zd] at hb) <;> try (exfalso;omega))|refine Ob.intro ?_ ?_))
 ((conv=>whnf);refine qw (fun _=>rfl) 300 1 (fun i:Nat=>[(8,iv i)]) (fun _=>[]) (fun i=>i≤l.length∧∀ j,j<i→(fun x=>!rightB x) (l.getD j [])=false) (fun i=>l.length - i) (0) (⟨by omega,fun j hj=>absurd hj (zo j)⟩) qa qa (fun _=>rfl) (by kernel_rfl) ?_;(conv=>whnf))
 intro i hi
 by_cases hil:i<l.length
 ·have hc:=jkn (l.getD i []) (hm _ (qdc l i [] (by omega)))
  (repeat' ((conv=>whnf);first|refine zA ?_|refine zO ?_|refine Ob.auto ?_|refine zC 300 (hc) ?_|refine zG 300 (fun hg=>hc) ?_|(refine CallY.con (hc) (by rfl) leA ?_)|(refine CallZ.con (fun hg=>hc) qf (by rfl) ?_)|(refine qg (fun _=>rfl) 300 (hc) qc (by (repeat' (first|exact trivial|exact Le.refl _|(refine And.intro ?_ ?_))) <;> fail) (by rfl) (by kernel_rfl) ?_)|(refine qi (fun _=>rfl) 300 (fun hg=>hc) (fun hg=>qc) (fun hg=>(by (repeat' (first|exact trivial|exact Le.refl _|exact Le.cnd hg|(refine And.intro ?_ ?_))) <;> fail)) (by rfl) (by kernel_rfl) ?_)|refine zD 300 ?_|(apply zB <;> intro hb <;> (try simp [-zd] at hb) <;> try (exfalso;omega))|refine Ob.intro ?_ ?_))
  ·refine Le.of_eq (congrArg (AV.int _) ?_)
   exact (quv _ l [] i (by omega) (by simp [-zd,hb]) hi.2).symm
  ·((conv=>whnf);refine ⟨i+1,⟨by omega,qea hi.2 (by first|(simp [-zd,hb];done)|(simp [-zd,];exact hb))⟩,⟨qa,qa⟩,⟨qa,qa⟩,?_⟩;(first|omega|(dsimp only;omega)|skip))
 ·(repeat' ((conv=>whnf);first|refine zA ?_|refine zO ?_|refine Ob.auto ?_|refine zD 300 ?_|(apply zB <;> intro hb <;> (try simp [-zd] at hb) <;> try (exfalso;omega))|refine Ob.intro ?_ ?_))
  refine Le.of_eq (congrArg (AV.int _) ?_)
  exact (quw _ l [] (fun j hj=>hi.2 j (by omega))).symm
theorem jkp  (l:List (List Int)) (hl:l.length≤1000000) (hm:∀ c∈l,c.length≤1000000):Con Try.prog 35 [qak l,.fn 36 []] (.bool (l.any fun x=>!rightB x)):=by
 have hc:=jko  l hl hm
 refine zK {} 300 Try.func35 (fun c0 rdb=>?_)
 (repeat' ((conv=>whnf);first|refine zA ?_|refine zO ?_|refine Ob.auto ?_|refine zC 300 (hc) ?_|refine zG 300 (fun hg=>hc) ?_|(refine CallY.con (hc) (by rfl) leA ?_)|(refine CallZ.con (fun hg=>hc) qf (by rfl) ?_)|(refine qg (fun _=>rfl) 300 (hc) qc (by (repeat' (first|exact trivial|exact Le.refl _|(refine And.intro ?_ ?_))) <;> fail) (by rfl) (by kernel_rfl) ?_)|(refine qi (fun _=>rfl) 300 (fun hg=>hc) (fun hg=>qc) (fun hg=>(by (repeat' (first|exact trivial|exact Le.refl _|exact Le.cnd hg|(refine And.intro ?_ ?_))) <;> fail)) (by rfl) (by kernel_rfl) ?_)|refine zD 300 ?_|(apply zB <;> intro hb <;> (try simp [-zd] at hb) <;> try (exfalso;omega))|refine Ob.intro ?_ ?_))
 refine Le.of_eq (congrArg AV.bool ?_)
 exact qvb _ l
theorem qrl (cs:List (List Int)) (hl:cs.length≤1000000) (hm:∀ c∈cs,c.length≤1000000):Con Try.prog 20 [qak cs] (.bool (cs.any fun x=>!rightB x)):=by
 have hc:=jkp cs hl hm
 refine zK {} 300 Try.func20 (fun c0 rdb=>?_)
 (repeat' ((conv=>whnf);first|refine zA ?_|refine zO ?_|refine Ob.auto ?_|refine zC 300 (hc) ?_|refine zG 300 (fun hg=>hc) ?_|(refine CallY.con (hc) (by rfl) leA ?_)|(refine CallZ.con (fun hg=>hc) qf (by rfl) ?_)|(refine qg (fun _=>rfl) 300 (hc) qc (by (repeat' (first|exact trivial|exact Le.refl _|(refine And.intro ?_ ?_))) <;> fail) (by rfl) (by kernel_rfl) ?_)|(refine qi (fun _=>rfl) 300 (fun hg=>hc) (fun hg=>qc) (fun hg=>(by (repeat' (first|exact trivial|exact Le.refl _|exact Le.cnd hg|(refine And.intro ?_ ?_))) <;> fail)) (by rfl) (by kernel_rfl) ?_)|refine zD 300 ?_|(apply zB <;> intro hb <;> (try simp [-zd] at hb) <;> try (exfalso;omega))|refine Ob.intro ?_ ?_))
 exact Le.refl _
theorem qrm {c:List Int} (hl:c.length≤1000000):Con Try.prog 20 [qak [c]] (.bool (!rightB c)):=by
 have h:=qrl [c] (by simp) (fun d hd=>by rw [zk] at hd;subst hd;exact hl)
 rw [show ([c].any fun x=>!rightB x)=!rightB c by simp] at h
 exact h
theorem qyk (cs:List (List Int)):(cs.any fun x=>!rightB x)=!cs.all rightB:=by
 rw [List.all_eq_not_any_not,Bool.not_not]
theorem qyl (k:K):rowsLt 11 (stP k):=qiy ⟨fun _ _=>rfl,fun _ _=>rfl,trivial⟩
theorem qym (cs:List (List Int)) (c:List Int) (hl:cs.length≤100000) (hc:∀ d∈cs,d.length≤100000) (hcl:c.length≤100000):Con Try.prog 10 [qak cs,ints c] (.bool (qee cs c)):=by
 have hi1:=qrm (c:=c) (by omega)
 have hi2:=qrl cs (by omega) (fun d hd=>zr (hc d hd) (by decide))
 rw [qyk] at hi2
 by_cases h:rightB c=true∧cs.all rightB=true
 ·have hst:=qyj cs h.2 hl hc
  have hnc:=qnj c (by omega)
  rw [h.1] at hnc
  simp only [cond_true,zbc] at hnc
  obtain ⟨nf,hD,_⟩:=qnb h.2 hl hc
  have hat:=qrj (qau cs) hD.I (normL c) (qec h.1) (zr (qey _) hcl) (qr (normL c))
  have hf:qee cs c=((qau cs).ask (normL c) (qr (normL c))).2:=by unfold qee;rw [za h]
  rw [hf]
  rw [h.1] at hi1
  rw [h.2] at hi2
  generalize qau cs=k0 at *
  replace hf:=Hid.in hf
  replace hD:=Hid.in hD
  refine zK {} 300 Try.func10 (fun c0 rdb=>?_)
  (repeat' ((conv=>whnf);first|refine zO ?_|refine Ob.auto ?_|(refine Ob.intro (by (first|first|exact ⟨by omega,by omega⟩|(simp only [zg];omega))) ?_)|(apply zB <;> intro hb <;> (try simp [-zd] at hb) <;> try (exfalso;omega))|refine Ob.intro ?_ ?_))
  ((conv=>whnf);refine jl (fun _=>rfl) 300 hi1 (by rfl) ⟨Le.slc rfl (fun i hi=>qds c (Nat.lt_one_iff.1 hi)),trivial⟩ (by kernel_rfl) ?_)
  (repeat' ((conv=>whnf);first|refine zO ?_|refine Ob.auto ?_|(refine Ob.intro (by (first|first|exact ⟨by omega,by omega⟩|(simp only [zg];omega))) ?_)|refine zC 300 (hi2) ?_|refine zG 300 (fun hg=>hi2) ?_|(refine CallY.con (hi2) (by rfl) leA ?_)|(refine CallZ.con (fun hg=>hi2) qf (by rfl) ?_)|refine zC 300 (hnc) ?_|refine zG 300 (fun hg=>hnc) ?_|(refine CallY.con (hnc) (by rfl) leA ?_)|(refine CallZ.con (fun hg=>hnc) qf (by rfl) ?_)|(refine qg (fun _=>rfl) 300 (hi2) qc (by (repeat' (first|exact trivial|exact Le.refl _|(refine And.intro ?_ ?_))) <;> fail) (by rfl) (by kernel_rfl) ?_)|(refine qi (fun _=>rfl) 300 (fun hg=>hi2) (fun hg=>qc) (fun hg=>(by (repeat' (first|exact trivial|exact Le.refl _|exact Le.cnd hg|(refine And.intro ?_ ?_))) <;> fail)) (by rfl) (by kernel_rfl) ?_)|(refine qg (fun _=>rfl) 300 (hnc) qc (by (repeat' (first|exact trivial|exact Le.refl _|(refine And.intro ?_ ?_))) <;> fail) (by rfl) (by kernel_rfl) ?_)|(refine qi (fun _=>rfl) 300 (fun hg=>hnc) (fun hg=>qc) (fun hg=>(by (repeat' (first|exact trivial|exact Le.refl _|exact Le.cnd hg|(refine And.intro ?_ ?_))) <;> fail)) (by rfl) (by kernel_rfl) ?_)|(apply zB <;> intro hb <;> (try simp [-zd] at hb) <;> try (exfalso;omega))|refine Ob.intro ?_ ?_))
  ((conv=>whnf);refine jm (fun _=>rfl) 300 [] hst (by kernel_rfl) leA qa (by exact qdb rfl) (by exact qyl k0) (by kernel_rfl) ?_)
  replace hst:=Hid.in hst
  (repeat' ((conv=>whnf);first|refine zO ?_|refine Ob.auto ?_|(refine Ob.intro (by (first|first|exact ⟨by omega,by omega⟩|(simp only [zg];omega))) ?_)|refine zC 300 (hnc) ?_|refine zG 300 (fun hg=>hnc) ?_|(refine CallY.con (hnc) (by rfl) leA ?_)|(refine CallZ.con (fun hg=>hnc) qf (by rfl) ?_)|(refine qg (fun _=>rfl) 300 (hnc) qc (by (repeat' (first|exact trivial|exact Le.refl _|(refine And.intro ?_ ?_))) <;> fail) (by rfl) (by kernel_rfl) ?_)|(refine qi (fun _=>rfl) 300 (fun hg=>hnc) (fun hg=>qc) (fun hg=>(by (repeat' (first|exact trivial|exact Le.refl _|exact Le.cnd hg|(refine And.intro ?_ ?_))) <;> fail)) (by rfl) (by kernel_rfl) ?_)|(apply zB <;> intro hb <;> (try simp [-zd] at hb) <;> try (exfalso;omega))|refine Ob.intro ?_ ?_))
  ((conv=>whnf);refine jm (fun _=>rfl) 300 [1,3,4,0,2,5,6,7,8,9,10] hat (by kernel_rfl) leA (by exact qrk k0) (by exact qn k0) (by exact qn _) (by kernel_rfl) ?_)
  replace hat:=Hid.in hat
  (repeat' ((conv=>whnf);first|refine zO ?_|refine Ob.auto ?_|(refine Ob.intro (by (first|first|exact ⟨by omega,by omega⟩|(simp only [zg];omega))) ?_)|(apply zB <;> intro hb <;> (try simp [-zd] at hb) <;> try (exfalso;omega))|refine Ob.intro ?_ ?_))
  exact Le.refl _
 ·have hf:qee cs c=false:=by unfold qee;rw [ze h]
  rw [hf]
  cases h1:rightB c with
  | false=>
   rw [h1] at hi1
   refine zK {} 300 Try.func10 (fun c0 rdb=>?_)
   (repeat' ((conv=>whnf);first|refine zO ?_|refine Ob.auto ?_|(refine Ob.intro (by (first|first|exact ⟨by omega,by omega⟩|(simp only [zg];omega))) ?_)|(apply zB <;> intro hb <;> (try simp [-zd] at hb) <;> try (exfalso;omega))|refine Ob.intro ?_ ?_))
   ((conv=>whnf);refine jl (fun _=>rfl) 300 hi1 (by rfl) ⟨Le.slc rfl (fun i hi=>qds c (Nat.lt_one_iff.1 hi)),trivial⟩ (by kernel_rfl) ?_)
   (repeat' ((conv=>whnf);first|refine zO ?_|refine Ob.auto ?_|(refine Ob.intro (by (first|first|exact ⟨by omega,by omega⟩|(simp only [zg];omega))) ?_)|refine zC 300 (hi2) ?_|refine zG 300 (fun hg=>hi2) ?_|(refine CallY.con (hi2) (by rfl) leA ?_)|(refine CallZ.con (fun hg=>hi2) qf (by rfl) ?_)|(refine qg (fun _=>rfl) 300 (hi2) qc (by (repeat' (first|exact trivial|exact Le.refl _|(refine And.intro ?_ ?_))) <;> fail) (by rfl) (by kernel_rfl) ?_)|(refine qi (fun _=>rfl) 300 (fun hg=>hi2) (fun hg=>qc) (fun hg=>(by (repeat' (first|exact trivial|exact Le.refl _|exact Le.cnd hg|(refine And.intro ?_ ?_))) <;> fail)) (by rfl) (by kernel_rfl) ?_)|(apply zB <;> intro hb <;> (try simp [-zd] at hb) <;> try (exfalso;omega))|refine Ob.intro ?_ ?_))
   exact Le.refl _
  | true=>
   have h2:cs.all rightB=false:=by
    cases h2:cs.all rightB with
    | false=>rfl
    | true=>exact absurd ⟨h1,h2⟩ h
   rw [h1] at hi1
   rw [h2] at hi2
   refine zK {} 300 Try.func10 (fun c0 rdb=>?_)
   (repeat' ((conv=>whnf);first|refine zO ?_|refine Ob.auto ?_|(refine Ob.intro (by (first|first|exact ⟨by omega,by omega⟩|(simp only [zg];omega))) ?_)|(apply zB <;> intro hb <;> (try simp [-zd] at hb) <;> try (exfalso;omega))|refine Ob.intro ?_ ?_))
   ((conv=>whnf);refine jl (fun _=>rfl) 300 hi1 (by rfl) ⟨Le.slc rfl (fun i hi=>qds c (Nat.lt_one_iff.1 hi)),trivial⟩ (by kernel_rfl) ?_)
   (repeat' ((conv=>whnf);first|refine zO ?_|refine Ob.auto ?_|(refine Ob.intro (by (first|first|exact ⟨by omega,by omega⟩|(simp only [zg];omega))) ?_)|refine zC 300 (hi2) ?_|refine zG 300 (fun hg=>hi2) ?_|(refine CallY.con (hi2) (by rfl) leA ?_)|(refine CallZ.con (fun hg=>hi2) qf (by rfl) ?_)|(refine qg (fun _=>rfl) 300 (hi2) qc (by (repeat' (first|exact trivial|exact Le.refl _|(refine And.intro ?_ ?_))) <;> fail) (by rfl) (by kernel_rfl) ?_)|(refine qi (fun _=>rfl) 300 (fun hg=>hi2) (fun hg=>qc) (fun hg=>(by (repeat' (first|exact trivial|exact Le.refl _|exact Le.cnd hg|(refine And.intro ?_ ?_))) <;> fail)) (by rfl) (by kernel_rfl) ?_)|(apply zB <;> intro hb <;> (try simp [-zd] at hb) <;> try (exfalso;omega))|refine Ob.intro ?_ ?_))
   exact Le.refl _
end Go.Proofs.Ytkhdldncbmkidaa
