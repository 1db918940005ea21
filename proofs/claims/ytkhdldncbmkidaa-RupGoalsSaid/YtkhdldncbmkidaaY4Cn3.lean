/- Contract: a clause's own form. -/
import Derived.Test.YtkhdldncbmkidaaY427
import Derived.Test.YtkhdldncbmkidaaY436
import Derived.Test.YtkhdldncbmkidaaY42
set_option linter.unusedSimpArgs false
set_option linter.unusedVariables false
namespace Go.Proofs.Ytkhdldncbmkidaa
open List renaming getD_eq_getElem?_getD → zd
open Go Go.Sx Go.RowKit Go.St Go.Cl
set_option maxRecDepth 100000
set_option maxHeartbeats 4000000
theorem jip {r:List Int} {i:Nat} (h1:1≤i) (h:i<r.length) (e:r.getD i 0=-(r.getD (i - 1) 0)):qu r=true:=by
 unfold qu
 rw [zay]
 exact ⟨i,List.mem_range.2 h,by rw [zh,xm,beq_iff_eq];exact ⟨h1,e⟩⟩
theorem jiq {r:List Int} (h:∀ j,1≤j→j<r.length→r.getD j 0≠-(r.getD (j - 1) 0)):qu r=false:=by
 rw [Bool.eq_false_iff]
 intro k
 unfold qu at k
 rw [zay] at k
 obtain ⟨i,hi,k⟩:=k
 rw [zh,xm,beq_iff_eq] at k
 exact h i k.1 (List.mem_range.1 hi) k.2
theorem jir (c:List Int) (hl:c.length≤1000000) (hr:rightB c=false):Con Try.prog 23 [ints c] (.tup [ints [],.bool false]):=by
 have hc:=qmk c hl
 rw [hr] at hc
 refine zK {} 300 Try.func23 (fun c0 rdb=>?_)
 (repeat' ((conv=>whnf);first|refine zA ?_|refine zO ?_|refine Ob.auto ?_|refine zC 300 (hc) ?_|refine zG 300 (fun hg=>hc) ?_|(refine CallY.con (hc) (by rfl) leA ?_)|(refine CallZ.con (fun hg=>hc) qp (by rfl) ?_)|(refine qv (fun _=>rfl) 300 (hc) qd (by (repeat' (first|exact trivial|exact Le.refl _|(refine And.intro ?_ ?_))) <;> fail) (by rfl) (by kernel_rfl) ?_)|(refine qw (fun _=>rfl) 300 (fun hg=>hc) (fun hg=>qd) (fun hg=>(by (repeat' (first|exact trivial|exact Le.refl _|exact Le.cnd hg|(refine And.intro ?_ ?_))) <;> fail)) (by rfl) (by kernel_rfl) ?_)|refine zD 300 ?_|(apply zB <;> intro hb <;> (try simp [-zd] at hb) <;> try (exfalso;omega))|refine Ob.intro ?_ ?_))
 exact Le.tup ⟨Le.nils _ _,Le.refl _,trivial⟩
theorem jis (ep:Nat) (c:List Int) (h0:0<(qap c).length) (hn:(qap c).length≤1000000) :
  Trip Try.prog 49 [.own 0 0 ep (qap c).length] [.row [] 3 1 ep (qap c).length (intF (qap c))] (.own 0 0 (ep+1) (normL c).length) [(0,.row [] 3 1 (ep+1) (normL c).length (intF (normL c++List.replicate ((qap c).length - (normL c).length) 0)))] 1:=
 jil ep (qap c) h0 hn
theorem jit (c:List Int) (hl:c.length≤1000000) (h0:0<c.length) (hr:rightB c=true):Con Try.prog 23 [ints c] (.tup [ints (normL c),.bool (qu (normL c))]):=by
 have hc:=qmk c hl
 rw [hr] at hc
 have hs:(qap c).length=c.length:=by simp [qap]
 refine zK {} 300 Try.func23 (fun c0 rdb=>?_)
 (repeat' ((conv=>whnf);first|refine zA ?_|refine zO ?_|refine Ob.auto ?_|refine zC 300 (hc) ?_|refine zG 300 (fun hg=>hc) ?_|(refine CallY.con (hc) (by rfl) leA ?_)|(refine CallZ.con (fun hg=>hc) qp (by rfl) ?_)|(refine qv (fun _=>rfl) 300 (hc) qd (by (repeat' (first|exact trivial|exact Le.refl _|(refine And.intro ?_ ?_))) <;> fail) (by rfl) (by kernel_rfl) ?_)|(refine qw (fun _=>rfl) 300 (fun hg=>hc) (fun hg=>qd) (fun hg=>(by (repeat' (first|exact trivial|exact Le.refl _|exact Le.cnd hg|(refine And.intro ?_ ?_))) <;> fail)) (by rfl) (by kernel_rfl) ?_)|refine zD 300 ?_|(apply zB <;> intro hb <;> (try simp [-zd] at hb) <;> try (exfalso;omega))|refine Ob.intro ?_ ?_))
 ·exact ⟨Int.le_refl 0,by omega,by omega,show (c.length:Int) * ((8:Nat):Int)≤140737488355328 by omega⟩
 ((conv=>whnf);refine ji (fun _=>rfl) 300 [0] (jik 0 c h0 hl hr) (by kernel_rfl) ⟨Le.of_eq (congrArg (AV.own 0 0 0) (by simp)),Le.refl _,trivial⟩ ⟨⟨⟨rfl,rfl,rfl⟩,rfl,by simp,fun k hk=>LeL.of_eq ?_⟩,trivial⟩ (by exact qcr rfl) (by exact qcr rfl) (by kernel_rfl) ?_)
 ·have hk:k<0+c.length:=hk
  show appF 0 _ c.length (encL (fun n=>[iv n]) 0 c) k=intF c k
  unfold appF
  rw [ze (zu k),za hk]
  rfl
 (repeat' ((conv=>whnf);first|refine zA ?_|refine zO ?_|refine Ob.auto ?_|refine zD 300 ?_|(apply zB <;> intro hb <;> (try simp [-zd] at hb) <;> try (exfalso;omega))|refine Ob.intro ?_ ?_))
 ((conv=>whnf);refine ji (fun _=>rfl) 300 [0] (jis 0 c (by rw [hs];exact h0) (by rw [hs];exact hl)) (by kernel_rfl) ⟨Le.of_eq (congrArg (AV.own 0 0 0) (by simp [hs])),trivial⟩ ⟨⟨⟨rfl,rfl,rfl⟩,rfl,by simp [hs],fun k hk=>LeL.of_eq rfl⟩,trivial⟩ (by exact qcr rfl) (by exact qcr rfl) (by kernel_rfl) ?_)
 (repeat' ((conv=>whnf);first|refine zA ?_|refine zO ?_|refine Ob.auto ?_|refine zD 300 ?_|(apply zB <;> intro hb <;> (try simp [-zd] at hb) <;> try (exfalso;omega))|refine Ob.intro ?_ ?_))
 have hnl:=qfm c
 have hlit:∀ k,k<(normL c).length→-100000≤(normL c).getD k 0∧(normL c).getD k 0≤100000:=fun k hk=>by
  have h1:=List.all_eq_true.1 hr _ (norm_mem.1 (qgr (normL c) k 0 hk))
  exact ((qdd _).1 h1).2
 ((conv=>whnf);refine jk (fun _=>rfl) 300 1 (fun i:Nat=>[(5,iv i)]) (fun _=>[(0,.row [] 3 1 1 (normL c).length (intF (normL c)))]) (fun i=>1≤i∧∀ j,1≤j→j<i→j<(normL c).length→(normL c).getD j 0≠-((normL c).getD (j - 1) 0)) (fun i=>(normL c).length - i) (1) (⟨zi _,fun j h1 h2=>by omega⟩) qa ⟨⟨⟨rfl,rfl,rfl⟩,rfl,rfl,fun k hk=>LeL.of_eq ?_⟩,trivial⟩ (fun _=>rfl) (by kernel_rfl) ?_;(conv=>whnf))
 ·have hk:k<(normL c).length:=hk
  show intF (normL c++_) k=intF (normL c) k
  unfold intF
  rw [zd,zo hk,← zd]
 intro i hi
 have h1:=hlit ((i:Int) - 1).toNat
 (repeat' ((conv=>whnf);first|refine zA ?_|refine zO ?_|refine Ob.auto ?_|refine zI ?_|refine zD 300 ?_|(apply zB <;> intro hb <;> (try simp [-zd] at hb) <;> try (exfalso;omega))|refine Ob.intro ?_ ?_))
 ·refine Le.tup ⟨Le.slc rfl fun k hk=>rfl,Le.of_eq (congrArg AV.bool (jip hi.1 (by assumption) hb).symm),trivial⟩
 ·((conv=>whnf);refine ⟨i+1,⟨by omega,fun j h1 h2 h3=>by
   by_cases hj:j<i
   ·exact hi.2 j h1 hj h3
   ·obtain rfl:j=i:=by omega
    exact hb⟩,⟨qa,qa⟩,⟨qa,qa⟩,?_⟩;(first|omega|(dsimp only;omega)|skip))
 ·refine Le.tup ⟨Le.slc rfl fun k hk=>rfl,Le.of_eq (congrArg AV.bool (jiq fun j h1 h2=>hi.2 j h1 (by omega) h2).symm),trivial⟩
theorem jiu:Con Try.prog 23 [ints []] (.tup [ints [],.bool false]):=by
 have hc:=qmk [] (by decide)
 refine zK {} 300 Try.func23 (fun c0 rdb=>?_)
 (repeat' ((conv=>whnf);first|refine zA ?_|refine zO ?_|refine Ob.auto ?_|(refine Ob.intro (by (exact ⟨Int.le_refl 0,by decide,by decide,by decide⟩)) ?_)|refine zC 300 (hc) ?_|refine zG 300 (fun hg=>hc) ?_|(refine CallY.con (hc) (by rfl) leA ?_)|(refine CallZ.con (fun hg=>hc) qp (by rfl) ?_)|(refine qv (fun _=>rfl) 300 (hc) qd (by (repeat' (first|exact trivial|exact Le.refl _|(refine And.intro ?_ ?_))) <;> fail) (by rfl) (by kernel_rfl) ?_)|(refine qw (fun _=>rfl) 300 (fun hg=>hc) (fun hg=>qd) (fun hg=>(by (repeat' (first|exact trivial|exact Le.refl _|exact Le.cnd hg|(refine And.intro ?_ ?_))) <;> fail)) (by rfl) (by kernel_rfl) ?_)|refine zD 300 ?_|(apply zB <;> intro hb <;> (try simp [-zd] at hb) <;> try (exfalso;omega))|refine Ob.intro ?_ ?_))
 ·exact Le.tup ⟨Le.nils _ _,Le.refl _,trivial⟩
 ((conv=>whnf);refine ji (fun _=>rfl) 300 [0] (jin 0 (fun _=>[])) (by kernel_rfl) ⟨Le.refl _,Le.refl _,trivial⟩ ⟨⟨⟨rfl,rfl,rfl⟩,rfl,rfl,fun k hk=>absurd hk (zu k)⟩,trivial⟩ (by exact qcr rfl) (by exact qcr rfl) (by kernel_rfl) ?_)
 (repeat' ((conv=>whnf);first|refine zA ?_|refine zO ?_|refine Ob.auto ?_|refine zD 300 ?_|(apply zB <;> intro hb <;> (try simp [-zd] at hb) <;> try (exfalso;omega))|refine Ob.intro ?_ ?_))
 ((conv=>whnf);refine ji (fun _=>rfl) 300 [0] (jio 0 (fun _=>[])) (by kernel_rfl) ⟨Le.refl _,trivial⟩ ⟨⟨⟨rfl,rfl,rfl⟩,rfl,rfl,fun k hk=>absurd hk (zu k)⟩,trivial⟩ (by exact qcr rfl) (by exact qcr rfl) (by kernel_rfl) ?_)
 (repeat' ((conv=>whnf);first|refine zA ?_|refine zO ?_|refine Ob.auto ?_|refine zD 300 ?_|(apply zB <;> intro hb <;> (try simp [-zd] at hb) <;> try (exfalso;omega))|refine Ob.intro ?_ ?_))
 ((conv=>whnf);refine jk (fun _=>rfl) 300 1 (fun i:Nat=>[(5,iv i)]) (fun _=>[(0,.row [] 3 1 0 0 (fun _=>[]))]) (fun i=>1≤i) (fun i=>0) (1) (zi _) qa ⟨⟨⟨rfl,rfl,rfl⟩,rfl,rfl,fun k hk=>absurd hk (zu k)⟩,trivial⟩ (fun _=>rfl) (by kernel_rfl) ?_;(conv=>whnf))
 intro i hi
 (repeat' ((conv=>whnf);first|refine zA ?_|refine zO ?_|refine Ob.auto ?_|refine zI ?_|refine zD 300 ?_|(apply zB <;> intro hb <;> (try simp [-zd] at hb) <;> try (exfalso;omega))|refine Ob.intro ?_ ?_))
 exact Le.tup ⟨Le.slc rfl fun k hk=>absurd hk (zu k),Le.refl _,trivial⟩
theorem qmq (c:List Int) (hl:c.length≤1000000):Con Try.prog 23 [ints c] (.tup [ints (bif rightB c then normL c else []),.bool (rightB c && qu (normL c))]):=by
 cases hr:rightB c with
 | false=>exact jir c hl hr
 | true=>
  by_cases h0:0<c.length
  ·exact jit c hl h0 hr
  ·obtain rfl:c=[]:=zz (by omega)
   have e:normL []=[]:=zz (Nat.le_zero.1 (qfm []))
   rw [e]
   exact jiu
end Go.Proofs.Ytkhdldncbmkidaa
