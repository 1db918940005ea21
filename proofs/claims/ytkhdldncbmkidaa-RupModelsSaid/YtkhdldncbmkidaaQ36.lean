/- Some texts of the library, one behind the other. -/
import Derived.Test.YtkhdldncbmkidaaQRuWG
import Derived.Test.YtkhdldncbmkidaaQCn4
import Derived.Test.YtkhdldncbmkidaaQ19
import Derived.Test.YtkhdldncbmkidaaQ2
set_option linter.unusedSimpArgs false
set_option linter.unusedVariables false
section
namespace Go.Proofs.Ytkhdldncbmkidaa
open List renaming getD_eq_getElem?_getD → zd
open Go Go.Sx Go.RowKit Go.Ru Go.Cl Go.St
set_option maxRecDepth 100000
set_option maxHeartbeats 8000000
theorem qjf {f:Nat→List AV} {v:Int} (h:f 0=[iv v]):Le (.slc 1 1 f) (ints [v]):=Le.slc rfl (fun i hi=>by obtain rfl:i=0:=(by omega);exact h)
theorem jjk (m:List Bool) (l:Int):Con Try.prog 33 [iv l,.rptr [qar m]] (.bool (!qac [l] m)):=by
 have hc:=qwr [l] m (by simp)
 refine zK {} 300 Try.func33 (fun c0 rdb=>?_)
 (repeat' ((conv=>whnf);first|refine zO ?_|refine Ob.auto ?_|(apply zB <;> intro hb <;> (try simp [-zd] at hb) <;> try (exfalso;omega))|refine Ob.intro ?_ ?_))
 ((conv=>whnf);refine qbd (fun _=>rfl) 300 hc (by rfl) ⟨qjf rfl,Le.refl _,trivial⟩ (by kernel_rfl) ?_)
 (repeat' ((conv=>whnf);first|refine zO ?_|refine Ob.auto ?_|(apply zB <;> intro hb <;> (try simp [-zd] at hb) <;> try (exfalso;omega))|refine Ob.intro ?_ ?_))
 exact Le.refl _
theorem jjl (m:List Bool) (l:List (Int)) (hl:l.length≤1000000):Con Try.prog 55 [ints l,.fn 33 [.rptr [qar m]]] (iv (idx (fun x=>!qac [x] m) l)):=by
 refine zK {} 300 Try.func55 (fun c0 rdb=>?_)
 (repeat' ((conv=>whnf);first|refine zA ?_|refine zO ?_|refine Ob.auto ?_|refine zD 300 ?_|(apply zB <;> intro hb <;> (try simp [-zd] at hb) <;> try (exfalso;omega))|refine Ob.intro ?_ ?_))
 ((conv=>whnf);refine jc (fun _=>rfl) 300 1 (fun i:Nat=>[(8,iv i)]) (fun _=>[]) (fun i=>i≤l.length∧∀ j,j<i→(fun x=>!qac [x] m) (l.getD j 0)=false) (fun i=>l.length - i) (0) (⟨by omega,fun j hj=>absurd hj (zt j)⟩) qa qa (fun _=>rfl) (by kernel_rfl) ?_;(conv=>whnf))
 intro i hi
 by_cases hil:i<l.length
 ·have hc:=jjk m (l.getD i 0)
  (repeat' ((conv=>whnf);first|refine zA ?_|refine zO ?_|refine Ob.auto ?_|refine zC 300 (hc) ?_|refine zG 300 (fun hg=>hc) ?_|(refine CallY.con (hc) (by rfl) leA ?_)|(refine CallZ.con (fun hg=>hc) qf (by rfl) ?_)|(refine qh (fun _=>rfl) 300 (hc) qc (by (repeat' (first|exact trivial|exact Le.refl _|(refine And.intro ?_ ?_))) <;> fail) (by rfl) (by kernel_rfl) ?_)|(refine qi (fun _=>rfl) 300 (fun hg=>hc) (fun hg=>qc) (fun hg=>(by (repeat' (first|exact trivial|exact Le.refl _|exact Le.cnd hg|(refine And.intro ?_ ?_))) <;> fail)) (by rfl) (by kernel_rfl) ?_)|refine zD 300 ?_|(apply zB <;> intro hb <;> (try simp [-zd] at hb) <;> try (exfalso;omega))|refine Ob.intro ?_ ?_))
  ·refine Le.of_eq (congrArg (AV.int _) ?_)
   exact (qij _ l 0 i (by omega) (by simp [-zd,hb]) hi.2).symm
  ·((conv=>whnf);refine ⟨i+1,⟨by omega,qdg hi.2 (by first|(simp [-zd,hb];done)|(simp [-zd,];exact hb))⟩,⟨qa,qa⟩,⟨qa,qa⟩,?_⟩;(first|omega|(dsimp only;omega)|skip))
 ·(repeat' ((conv=>whnf);first|refine zA ?_|refine zO ?_|refine Ob.auto ?_|refine zD 300 ?_|(apply zB <;> intro hb <;> (try simp [-zd] at hb) <;> try (exfalso;omega))|refine Ob.intro ?_ ?_))
  refine Le.of_eq (congrArg (AV.int _) ?_)
  exact (qik _ l 0 (fun j hj=>hi.2 j (by omega))).symm
theorem jjm (m:List Bool) (l:List (Int)) (hl:l.length≤1000000):Con Try.prog 32 [ints l,.fn 33 [.rptr [qar m]]] (.bool (l.any fun x=>!qac [x] m)):=by
 have hc:=jjl m l hl
 refine zK {} 300 Try.func32 (fun c0 rdb=>?_)
 (repeat' ((conv=>whnf);first|refine zA ?_|refine zO ?_|refine Ob.auto ?_|refine zC 300 (hc) ?_|refine zG 300 (fun hg=>hc) ?_|(refine CallY.con (hc) (by rfl) leA ?_)|(refine CallZ.con (fun hg=>hc) qf (by rfl) ?_)|(refine qh (fun _=>rfl) 300 (hc) qc (by (repeat' (first|exact trivial|exact Le.refl _|(refine And.intro ?_ ?_))) <;> fail) (by rfl) (by kernel_rfl) ?_)|(refine qi (fun _=>rfl) 300 (fun hg=>hc) (fun hg=>qc) (fun hg=>(by (repeat' (first|exact trivial|exact Le.refl _|exact Le.cnd hg|(refine And.intro ?_ ?_))) <;> fail)) (by rfl) (by kernel_rfl) ?_)|refine zD 300 ?_|(apply zB <;> intro hb <;> (try simp [-zd] at hb) <;> try (exfalso;omega))|refine Ob.intro ?_ ?_))
 refine Le.of_eq (congrArg AV.bool ?_)
 exact qim _ l
def qfw (cs:List (List Int)) (m:List Bool) (a:List Int):Bool:=((cs.all rightB && rightB a) && allB cs m) && a.all fun l=>qac [l] m
theorem jjn (cs:List (List Int)) (m:List Bool) (a:List Int) (hl:cs.length≤100000) (hc:∀ d∈cs,d.length≤100000) (ha:a.length≤100000):Con Try.prog 19 [qae cs,qar m,ints a] (.bool (qfw cs m a)):=by
 have hi1:=qmw (c:=a) (by omega)
 have hi2:=qmv cs (by omega) (fun d hd=>zr (hc d hd) (by decide))
 rw [qqu] at hi2
 have hal:=jhq cs m (by omega) (fun d hd=>zr (hc d hd) (by decide))
 have hha:=jjm m a (by omega)
 refine zK {} 300 Try.func19 (fun c0 rdb=>?_)
 (repeat' ((conv=>whnf);first|refine zO ?_|refine Ob.auto ?_|(apply zB <;> intro hb <;> (try simp [-zd] at hb) <;> try (exfalso;omega))|refine Ob.intro ?_ ?_))
 ((conv=>whnf);refine qbd (fun _=>rfl) 300 hi2 (by rfl) leA (by kernel_rfl) ?_)
 (repeat' ((conv=>whnf);first|refine zO ?_|refine Ob.auto ?_|(apply zB <;> intro hb <;> (try simp [-zd] at hb) <;> try (exfalso;omega))|refine Ob.intro ?_ ?_))
 ((conv=>whnf);refine qdp (fun _=>rfl) 300 (fun _=>hi1) (by rfl) (fun hg=>⟨Le.trans (Le.cnd hg) (Le.slc rfl (fun i hi=>qcu a (Nat.lt_one_iff.1 hi))),trivial⟩) (by kernel_rfl) ?_)
 (repeat' ((conv=>whnf);first|refine zA ?_|refine zO ?_|refine Ob.auto ?_|refine zC 300 (hal) ?_|refine zG 300 (fun hg=>hal) ?_|(refine CallY.con (hal) (by rfl) leA ?_)|(refine CallZ.con (fun hg=>hal) qf (by rfl) ?_)|refine zC 300 (hha) ?_|refine zG 300 (fun hg=>hha) ?_|(refine CallY.con (hha) (by rfl) leA ?_)|(refine CallZ.con (fun hg=>hha) qf (by rfl) ?_)|(refine qh (fun _=>rfl) 300 (hal) qc (by (repeat' (first|exact trivial|exact Le.refl _|(refine And.intro ?_ ?_))) <;> fail) (by rfl) (by kernel_rfl) ?_)|(refine qi (fun _=>rfl) 300 (fun hg=>hal) (fun hg=>qc) (fun hg=>(by (repeat' (first|exact trivial|exact Le.refl _|exact Le.cnd hg|(refine And.intro ?_ ?_))) <;> fail)) (by rfl) (by kernel_rfl) ?_)|(refine qh (fun _=>rfl) 300 (hha) qc (by (repeat' (first|exact trivial|exact Le.refl _|(refine And.intro ?_ ?_))) <;> fail) (by rfl) (by kernel_rfl) ?_)|(refine qi (fun _=>rfl) 300 (fun hg=>hha) (fun hg=>qc) (fun hg=>(by (repeat' (first|exact trivial|exact Le.refl _|exact Le.cnd hg|(refine And.intro ?_ ?_))) <;> fail)) (by rfl) (by kernel_rfl) ?_)|refine zD 300 ?_|(apply zB <;> intro hb <;> (try simp [-zd] at hb) <;> try (exfalso;omega))|refine Ob.intro ?_ ?_))
 ·have hf:qfw cs m a=false:=by
   unfold qfw
   rcases hb with (⟨x,hx,hr⟩|h)|h
   ·have:cs.all rightB=false:=by
     rw [List.all_eq_false]
     exact ⟨x,hx,by rw [hr];decide⟩
    rw [this];rfl
   ·rw [h];simp
   ·rw [h];simp
  rw [hf]
  exact Le.refl _
 ·have hf:qfw cs m a=!a.any fun x=>!qac [x] m:=by
   unfold qfw
   rw [show cs.all rightB=true from List.all_eq_true.2 hb.1.1,hb.1.2,hb.2,Bool.and_self,zar,zar,List.all_eq_not_any_not]
  rw [hf]
  exact Le.refl _
end Go.Proofs.Ytkhdldncbmkidaa
end
section
namespace Go.Proofs.Ytkhdldncbmkidaa
open Go Go.Sx Go.RowKit Go.Ru Go.Cl Go.St
set_option maxRecDepth 100000
set_option maxHeartbeats 8000000
theorem jjo {l:List Int} {i:Nat} (h:i<l.length):l.take (i+1)=l.take i++[l.getD i 0]:=by
 rw [zan,zb h,xe,zb h];rfl
end Go.Proofs.Ytkhdldncbmkidaa
end
