/- The law ParseSpans. -/
import Derived.Test.YthfaleaojlnnoaaY140
import Derived.Test.YthfaleaojlnnoaaY12
set_option linter.unusedSimpArgs false
set_option linter.unusedVariables false
namespace Go.Proofs.Ythfaleaojlnnoaa
open List renaming getD_eq_getElem?_getD → zd
open Go Go.Sx Go.RowKit Go.St Pa
set_option maxRecDepth 100000
set_option maxHeartbeats 4000000
theorem jmw (s:List UInt8):Con Try.prog 9 [.str s] (.bool true):=by
 by_cases hs:s.length≤1500
 ·have h1:=qtq s (by omega)
  have hK:=jmv s
  obtain ⟨hsz,hk8⟩:=jmt s
  generalize jr s=R at h1 hK hsz hk8
  obtain ⟨l,e,at_⟩:=R
  simp only at hsz hk8
  refine zK {} 300 Try.func9 (fun c0 rdb=>?_)
  (repeat' ((conv=>whnf);first|refine zA ?_|refine zO ?_|refine Ob.auto ?_|refine zC 300 (qeb) ?_|refine zG 300 (fun hg=>qeb) ?_|(refine CallY.con (qeb) (by rfl) leA ?_)|(refine CallZ.con (fun hg=>qeb) qz (by rfl) ?_)|refine zC 300 (h1) ?_|refine zG 300 (fun hg=>h1) ?_|(refine CallY.con (h1) (by rfl) leA ?_)|(refine CallZ.con (fun hg=>h1) qz (by rfl) ?_)|(refine qq (fun _=>rfl) 300 (qeb) qc (by (repeat' (first|exact trivial|exact Le.refl _|(refine And.intro ?_ ?_))) <;> fail) (by rfl) (by kernel_rfl) ?_)|(refine ja (fun _=>rfl) 300 (fun hg=>qeb) (fun hg=>qc) (fun hg=>(by (repeat' (first|exact trivial|exact Le.refl _|exact Le.cnd hg|(refine And.intro ?_ ?_))) <;> fail)) (by rfl) (by kernel_rfl) ?_)|(refine qq (fun _=>rfl) 300 (h1) qc (by (repeat' (first|exact trivial|exact Le.refl _|(refine And.intro ?_ ?_))) <;> fail) (by rfl) (by kernel_rfl) ?_)|(refine ja (fun _=>rfl) 300 (fun hg=>h1) (fun hg=>qc) (fun hg=>(by (repeat' (first|exact trivial|exact Le.refl _|exact Le.cnd hg|(refine And.intro ?_ ?_))) <;> fail)) (by rfl) (by kernel_rfl) ?_)|refine zD 300 ?_|(apply zB <;> intro hb <;> (try simp [-zd] at hb) <;> try (exfalso;omega))|refine Ob.intro ?_ ?_))
  ((conv=>whnf);refine qdx (fun _=>rfl) 300 1 (fun i:Nat=>[(5,iv i)]) (fun _=>[]) (fun i=>i≤l.length) (fun i=>l.length - i) (0) (xt _) qa qa (fun _=>rfl) (by kernel_rfl) ?_;(conv=>whnf))
  intro i hi
  by_cases hil:i<l.length
  ·have hkl:=(hk8 _ (qoe hil)).2.2
   have hQ:=hK i hil
   simp only at hkl hQ
   (repeat' ((conv=>whnf);first|refine zA ?_|refine zO ?_|refine Ob.auto ?_|refine zI ?_|refine zD 300 ?_|(apply zB <;> intro hb <;> (try simp [-zd] at hb) <;> try (exfalso;omega))|refine Ob.intro ?_ ?_))
   ((conv=>whnf);refine qdx (fun _=>rfl) 300 2 (fun k:Nat=>[(7,iv k),(6,iv (lastS l (l.getD i nd0) k)),(3,qgx l),(0,.str s)]) (fun _=>[]) (fun k=>k≤(l.getD i nd0).kids.length) (fun k=>(l.getD i nd0).kids.length - k) (0) (xt _) qa qa (fun _=>rfl) (by kernel_rfl) ?_;(conv=>whnf))
   intro k hk
   by_cases hkk:k<(l.getD i nd0).kids.length
   ·obtain ⟨k1,k2,k3,k4,k5⟩:=hQ k hkk
    have k6:=jmu l (l.getD i nd0) k
    (repeat' ((conv=>whnf);first|refine zA ?_|refine zO ?_|refine Ob.auto ?_|refine zI ?_|refine zD 300 ?_|(apply zB <;> intro hb <;> (try simp [-zd] at hb) <;> try (exfalso;omega))|refine Ob.intro ?_ ?_))
    ((conv=>whnf);refine ⟨k+1,hkk,⟨qa,qa⟩,⟨qa,qa⟩,?_⟩;(first|omega|(dsimp only;omega)|skip))
   ·have hkq:k=(l.getD i nd0).kids.length:=by omega
    (repeat' ((conv=>whnf);first|refine zA ?_|refine zO ?_|refine Ob.auto ?_|refine zI ?_|refine zD 300 ?_|(apply zB <;> intro hb <;> (try simp [-zd] at hb) <;> try (exfalso;omega))|refine Ob.intro ?_ ?_))
    ((conv=>whnf);refine ⟨i+1,hil,⟨qa,qa⟩,⟨qa,qa⟩,?_⟩;(first|omega|(dsimp only;omega)|skip))
  ·(repeat' ((conv=>whnf);first|refine zA ?_|refine zO ?_|refine Ob.auto ?_|refine zI ?_|refine zD 300 ?_|(apply zB <;> intro hb <;> (try simp [-zd] at hb) <;> try (exfalso;omega))|refine Ob.intro ?_ ?_))
   exact Le.refl _
 ·refine zK {} 300 Try.func9 (fun c0 rdb=>?_)
  (repeat' ((conv=>whnf);first|refine zA ?_|refine zO ?_|refine Ob.auto ?_|refine zC 300 (qeb) ?_|refine zG 300 (fun hg=>qeb) ?_|(refine CallY.con (qeb) (by rfl) leA ?_)|(refine CallZ.con (fun hg=>qeb) qz (by rfl) ?_)|(refine qq (fun _=>rfl) 300 (qeb) qc (by (repeat' (first|exact trivial|exact Le.refl _|(refine And.intro ?_ ?_))) <;> fail) (by rfl) (by kernel_rfl) ?_)|(refine ja (fun _=>rfl) 300 (fun hg=>qeb) (fun hg=>qc) (fun hg=>(by (repeat' (first|exact trivial|exact Le.refl _|exact Le.cnd hg|(refine And.intro ?_ ?_))) <;> fail)) (by rfl) (by kernel_rfl) ?_)|refine zD 300 ?_|(apply zB <;> intro hb <;> (try simp [-zd] at hb) <;> try (exfalso;omega))|refine Ob.intro ?_ ?_))
  all_goals exact Le.refl _
end Go.Proofs.Ythfaleaojlnnoaa
