/- Contracts: kids of parse.Right. -/
import Derived.Test.YthfaleaojlnnoaaY7RgW
import Derived.Test.YthfaleaojlnnoaaY72
set_option linter.unusedSimpArgs false
set_option linter.unusedVariables false
namespace Go.Proofs.Ythfaleaojlnnoaa
open List renaming getD_eq_getElem?_getD → zd
open Go Go.Sx Go.RowKit Go.St
set_option maxRecDepth 100000
set_option maxHeartbeats 4000000
theorem qeq (k:Int) (ks:List Int) (hk:ks.length≤9223372036854775807):Con Try.prog 46 [iv k,ints ks] (.bool (qjd k ks)):=by
 refine zK {} 300 Try.func46 (fun c0 rdb=>?_)
 (repeat' ((conv=>whnf);first|refine zA ?_|refine zO ?_|refine Ob.auto ?_|(refine qau (fun _=>rfl) 300 (qgg ks [3,4] hk (by decide)) (by rfl) ?_ (by kernel_rfl) ?_;(first|exact ⟨Le.refl _,qam rfl rfl,trivial⟩|exact ⟨Le.refl _,Le.nils _ _,trivial⟩))|(refine qcn (fun _=>rfl) 300 (fun hg=>qgg ks [3,4] hk (by decide)) (by rfl) ?_ (by kernel_rfl) ?_;(first|exact fun hg=>⟨Le.cnd hg,Le.trans (Le.cnd hg) (qam rfl rfl),trivial⟩|exact fun hg=>⟨Le.cnd hg,qam rfl rfl,trivial⟩))|(refine qau (fun _=>rfl) 300 (qgg ks [3,4,4] hk (by decide)) (by rfl) ?_ (by kernel_rfl) ?_;(first|exact ⟨Le.refl _,qam rfl rfl,trivial⟩|exact ⟨Le.refl _,Le.nils _ _,trivial⟩))|(refine qcn (fun _=>rfl) 300 (fun hg=>qgg ks [3,4,4] hk (by decide)) (by rfl) ?_ (by kernel_rfl) ?_;(first|exact fun hg=>⟨Le.cnd hg,Le.trans (Le.cnd hg) (qam rfl rfl),trivial⟩|exact fun hg=>⟨Le.cnd hg,qam rfl rfl,trivial⟩))|(refine qau (fun _=>rfl) 300 (qgg ks [4] hk (by decide)) (by rfl) ?_ (by kernel_rfl) ?_;(first|exact ⟨Le.refl _,qam rfl rfl,trivial⟩|exact ⟨Le.refl _,Le.nils _ _,trivial⟩))|(refine qcn (fun _=>rfl) 300 (fun hg=>qgg ks [4] hk (by decide)) (by rfl) ?_ (by kernel_rfl) ?_;(first|exact fun hg=>⟨Le.cnd hg,Le.trans (Le.cnd hg) (qam rfl rfl),trivial⟩|exact fun hg=>⟨Le.cnd hg,qam rfl rfl,trivial⟩))|(refine qau (fun _=>rfl) 300 (qgg ks [3,3] hk (by decide)) (by rfl) ?_ (by kernel_rfl) ?_;(first|exact ⟨Le.refl _,qam rfl rfl,trivial⟩|exact ⟨Le.refl _,Le.nils _ _,trivial⟩))|(refine qcn (fun _=>rfl) 300 (fun hg=>qgg ks [3,3] hk (by decide)) (by rfl) ?_ (by kernel_rfl) ?_;(first|exact fun hg=>⟨Le.cnd hg,Le.trans (Le.cnd hg) (qam rfl rfl),trivial⟩|exact fun hg=>⟨Le.cnd hg,qam rfl rfl,trivial⟩))|(refine qau (fun _=>rfl) 300 (qgg ks [3] hk (by decide)) (by rfl) ?_ (by kernel_rfl) ?_;(first|exact ⟨Le.refl _,qam rfl rfl,trivial⟩|exact ⟨Le.refl _,Le.nils _ _,trivial⟩))|(refine qcn (fun _=>rfl) 300 (fun hg=>qgg ks [3] hk (by decide)) (by rfl) ?_ (by kernel_rfl) ?_;(first|exact fun hg=>⟨Le.cnd hg,Le.trans (Le.cnd hg) (qam rfl rfl),trivial⟩|exact fun hg=>⟨Le.cnd hg,qam rfl rfl,trivial⟩))|refine zC 300 (qcz ks hk _) ?_|refine zG 300 (fun hg=>qcz ks hk _) ?_|(refine CallY.con (qcz ks hk _) (by rfl) leA ?_)|(refine CallZ.con (fun hg=>qcz ks hk _) qn (by rfl) ?_)|(refine ql (fun _=>rfl) 300 (qcz ks hk _) qc (by (repeat' (first|exact trivial|exact Le.refl _|(refine And.intro ?_ ?_))) <;> fail) (by rfl) (by kernel_rfl) ?_)|(refine qp (fun _=>rfl) 300 (fun hg=>qcz ks hk _) (fun hg=>qc) (fun hg=>(by (repeat' (first|exact trivial|exact Le.refl _|exact Le.cnd hg|(refine And.intro ?_ ?_))) <;> fail)) (by rfl) (by kernel_rfl) ?_)|refine zD 300 ?_|(apply zB <;> intro hb <;> (try simp [-zd] at hb) <;> try (exfalso;omega))|refine Ob.intro ?_ ?_))
 rotate_left 1
 ·have hkq:k=3:=by assumption
  subst hkq
  rw [show qjd 3 ks=allK (ks.dropWhile (· == 2)) 2 from rfl]
  ((conv=>whnf);refine qbb (fun _=>rfl) 300 1 (fun r:List Int=>[(1,ints r)]) (fun _=>[]) (fun r=>r.length≤ks.length∧r.dropWhile (· == 2)=ks.dropWhile (· == 2)) (fun r=>r.length) (ks) (⟨zi _,rfl⟩) qa qa (fun _=>rfl) (by kernel_rfl) ?_;(conv=>whnf))
  rintro r ⟨hr,hd⟩
  rw [← hd]
  cases r with
  | nil=>
   (repeat' ((conv=>whnf);first|refine zA ?_|refine zO ?_|refine Ob.auto ?_|refine zC 300 (qcz [] (by decide) 2) ?_|refine zG 300 (fun hg=>qcz [] (by decide) 2) ?_|(refine CallY.con (qcz [] (by decide) 2) (by rfl) leA ?_)|(refine CallZ.con (fun hg=>qcz [] (by decide) 2) qn (by rfl) ?_)|(refine ql (fun _=>rfl) 300 (qcz [] (by decide) 2) qc (by (repeat' (first|exact trivial|exact Le.refl _|(refine And.intro ?_ ?_))) <;> fail) (by rfl) (by kernel_rfl) ?_)|(refine qp (fun _=>rfl) 300 (fun hg=>qcz [] (by decide) 2) (fun hg=>qc) (fun hg=>(by (repeat' (first|exact trivial|exact Le.refl _|exact Le.cnd hg|(refine And.intro ?_ ?_))) <;> fail)) (by rfl) (by kernel_rfl) ?_)|refine zD 300 ?_|(apply zB <;> intro hb <;> (try simp [-zd] at hb) <;> try (exfalso;omega))|refine Ob.intro ?_ ?_))
   exact Le.refl _
  | cons a r=>
   have hr':r.length+1≤ks.length:=hr
   have hr2:(a::r).length≤9223372036854775807:=by omega
   have hl1:(1:Int)≤((a::r).length:Int):=by rw [zq];omega
   have hl0:(0:Int)<((a::r).length:Int):=by omega
   have hg0:(a::r).getD (Int.toNat 0) 0=a:=rfl
   by_cases ha:a=2
   ·subst ha
    (repeat' ((conv=>whnf);first|refine zA ?_|refine zO ?_|refine Ob.auto ?_|(refine Ob.intro (by (first|exact ⟨by omega,hl1⟩|exact ⟨by omega,by omega⟩)) ?_)|refine zD 300 ?_|(apply zB <;> intro hb <;> (try simp [-zd] at hb) <;> try (exfalso;omega))|refine Ob.intro ?_ ?_))
    ·have hm:r.length<(2::r).length:=Nat.lt_succ_self _
     ((conv=>whnf);refine ⟨r,⟨by omega,rfl⟩,⟨⟨Le.slc rfl (fun i _=>by show encL _ _ _ (1+i)=_;rw [Nat.add_comm];rfl),trivial⟩,trivial⟩,⟨qa,qa⟩,?_⟩;(first|omega|(dsimp only;omega)|skip))
    ·exact absurd rfl hb
   ·have hdw:(a::r).dropWhile (· == 2)=a::r:=by
     rw [List.dropWhile_cons,za (by simpa using ha)]
    rw [hdw]
    (repeat' ((conv=>whnf);first|refine zA ?_|refine zO ?_|refine Ob.auto ?_|(refine Ob.intro (by (first|exact ⟨by omega,hl1⟩|exact ⟨by omega,by omega⟩)) ?_)|refine zC 300 (qcz (a::r) hr2 2) ?_|refine zG 300 (fun hg=>qcz (a::r) hr2 2) ?_|(refine CallY.con (qcz (a::r) hr2 2) (by rfl) leA ?_)|(refine CallZ.con (fun hg=>qcz (a::r) hr2 2) qn (by rfl) ?_)|(refine ql (fun _=>rfl) 300 (qcz (a::r) hr2 2) qc (by (repeat' (first|exact trivial|exact Le.refl _|(refine And.intro ?_ ?_))) <;> fail) (by rfl) (by kernel_rfl) ?_)|(refine qp (fun _=>rfl) 300 (fun hg=>qcz (a::r) hr2 2) (fun hg=>qc) (fun hg=>(by (repeat' (first|exact trivial|exact Le.refl _|exact Le.cnd hg|(refine And.intro ?_ ?_))) <;> fail)) (by rfl) (by kernel_rfl) ?_)|refine zD 300 ?_|(apply zB <;> intro hb <;> (try simp [-zd] at hb) <;> try (exfalso;omega))|refine Ob.intro ?_ ?_))
    ·exact absurd hb ha
    ·exact Le.refl _
 all_goals
  refine Le.of_eq (congrArg AV.bool ?_)
  unfold qjd
  repeat (first|rw [zb (by omega)]|rw [za (by omega)])
 all_goals first
  | rw [show decide ((0:Int)<(ks.length:Int))=decide (0<ks.length) from decide_eq_decide.2 (by omega)]
  | (rw [xc,xn,zo];omega)
end Go.Proofs.Ythfaleaojlnnoaa
