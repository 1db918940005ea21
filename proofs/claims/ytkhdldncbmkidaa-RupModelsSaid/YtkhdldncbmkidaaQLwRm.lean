/- The law RupModels. -/
import Derived.Test.YtkhdldncbmkidaaQ38
import Derived.Test.YtkhdldncbmkidaaQ2
set_option linter.unusedSimpArgs false
set_option linter.unusedVariables false
namespace Go.Proofs.Ytkhdldncbmkidaa
open List renaming getD_eq_getElem?_getD → zd
open Go Go.Sx Go.RowKit Go.Ru Go.Cl Go.St
set_option maxRecDepth 100000
set_option maxHeartbeats 8000000
theorem jjv (cs:List (List Int)) (m:List Bool) (a:List Int):Con Try.prog 7 [qae cs,qar m,ints a] (.bool true):=by
 have hsm:=jju cs 40 100000 (by decide)
 by_cases hs:qeu cs 40 100000=true∧m.length≤60∧a.length≤20
 ·obtain ⟨h1,h2,h3⟩:=hs
  obtain ⟨h4,h5⟩:=jjt h1
  rw [h1] at hsm
  have hr:=qwt a (by omega)
  have ha:=jhr cs m (by omega) (fun c hc=>by have:=(h5 c hc).1;omega)
  have hm:=jjn cs m a (by omega) (fun c hc=>by have:=(h5 c hc).1;omega) (by omega)
  refine zK {} 300 Try.func7 (fun c0 rdb=>?_)
  (repeat' ((conv=>whnf);first|refine zO ?_|refine Ob.auto ?_|(refine Ob.intro (by (first|exact ⟨by omega,by omega⟩)) ?_)|refine zC 300 (qcf) ?_|refine zG 300 (fun hg=>qcf) ?_|(refine CallY.con (qcf) (by rfl) leA ?_)|(refine CallZ.con (fun hg=>qcf) qf (by rfl) ?_)|refine zC 300 (hsm) ?_|refine zG 300 (fun hg=>hsm) ?_|(refine CallY.con (hsm) (by rfl) leA ?_)|(refine CallZ.con (fun hg=>hsm) qf (by rfl) ?_)|(refine qh (fun _=>rfl) 300 (qcf) qc (by (repeat' (first|exact trivial|exact Le.refl _|(refine And.intro ?_ ?_))) <;> fail) (by rfl) (by kernel_rfl) ?_)|(refine qi (fun _=>rfl) 300 (fun hg=>qcf) (fun hg=>qc) (fun hg=>(by (repeat' (first|exact trivial|exact Le.refl _|exact Le.cnd hg|(refine And.intro ?_ ?_))) <;> fail)) (by rfl) (by kernel_rfl) ?_)|(refine qh (fun _=>rfl) 300 (hsm) qc (by (repeat' (first|exact trivial|exact Le.refl _|(refine And.intro ?_ ?_))) <;> fail) (by rfl) (by kernel_rfl) ?_)|(refine qi (fun _=>rfl) 300 (fun hg=>hsm) (fun hg=>qc) (fun hg=>(by (repeat' (first|exact trivial|exact Le.refl _|exact Le.cnd hg|(refine And.intro ?_ ?_))) <;> fail)) (by rfl) (by kernel_rfl) ?_)|(apply zB <;> intro hb <;> (try simp [-zd] at hb) <;> try (exfalso;omega))|refine Ob.intro ?_ ?_))
  ((conv=>whnf);refine qbd (fun _=>rfl) 300 hr (by rfl) leA (by kernel_rfl) ?_)
  (repeat' ((conv=>whnf);first|refine zO ?_|refine Ob.auto ?_|(refine Ob.intro (by (first|exact ⟨by omega,by omega⟩)) ?_)|refine zC 300 (ha) ?_|refine zG 300 (fun hg=>ha) ?_|(refine CallY.con (ha) (by rfl) leA ?_)|(refine CallZ.con (fun hg=>ha) qf (by rfl) ?_)|(refine qh (fun _=>rfl) 300 (ha) qc (by (repeat' (first|exact trivial|exact Le.refl _|(refine And.intro ?_ ?_))) <;> fail) (by rfl) (by kernel_rfl) ?_)|(refine qi (fun _=>rfl) 300 (fun hg=>ha) (fun hg=>qc) (fun hg=>(by (repeat' (first|exact trivial|exact Le.refl _|exact Le.cnd hg|(refine And.intro ?_ ?_))) <;> fail)) (by rfl) (by kernel_rfl) ?_)|(apply zB <;> intro hb <;> (try simp [-zd] at hb) <;> try (exfalso;omega))|refine Ob.intro ?_ ?_))
  generalize hw:(rightB a && allB cs m)=w0
  replace hr:=Hid.in hr
  replace ha:=Hid.in ha
  ((conv=>whnf);refine jc (fun _=>rfl) 300 1 (fun i:Nat=>[(8,iv i),(7,.bool (w0 && (cs.take i).all rightB))]) (fun _=>[]) (fun i=>i≤cs.length) (fun i=>cs.length - i) (0) (zz _) ⟨Le.refl _,Le.of_eq (congrArg AV.bool (Bool.and_true _).symm),trivial⟩ qa (fun _=>rfl) (by kernel_rfl) ?_;(conv=>whnf))
  intro i hi
  by_cases hil:i<cs.length
  ·have hri:=qwt (cs.getD i []) (by have:=(h5 _ (qq (d:=[]) hil)).1;omega)
   have hnx:(w0 && (cs.take (i+1)).all rightB)=((w0 && (cs.take i).all rightB) && rightB (cs.getD i [])):=by
    rw [zan,zb hil,Option.toList_some,List.all_append,zd,zb hil,Bool.and_assoc]
    simp
   generalize (w0 && (cs.take i).all rightB)=w at hnx ⊢
   replace hnx:=Hid.in hnx
   (repeat' ((conv=>whnf);first|refine zO ?_|refine Ob.auto ?_|(refine Ob.intro (by (first|exact ⟨by omega,by omega⟩|exact ⟨⟨rfl,rfl⟩,zg _,Int.ofNat_lt.2 hil⟩|exact ⟨⟨rfl,rfl⟩,hil⟩)) ?_)|refine zC 300 (hri) ?_|refine zG 300 (fun hg=>hri) ?_|(refine CallY.con (hri) (by rfl) leA ?_)|(refine CallZ.con (fun hg=>hri) qf (by rfl) ?_)|(refine qh (fun _=>rfl) 300 (hri) qc (by (repeat' (first|exact trivial|exact Le.refl _|(refine And.intro ?_ ?_))) <;> fail) (by rfl) (by kernel_rfl) ?_)|(refine qi (fun _=>rfl) 300 (fun hg=>hri) (fun hg=>qc) (fun hg=>(by (repeat' (first|exact trivial|exact Le.refl _|exact Le.cnd hg|(refine And.intro ?_ ?_))) <;> fail)) (by rfl) (by kernel_rfl) ?_)|(apply zB <;> intro hb <;> (try simp [-zd] at hb) <;> try (exfalso;omega))|refine Ob.intro ?_ ?_))
   ((conv=>whnf);refine ⟨i+1,hil,⟨(by
    rw [hnx.out]
    (repeat' (first|exact trivial|exact rfl|exact Le.refl _|exact SoLe.refl _|refine And.intro ?_ ?_))),qa⟩,⟨qa,qa⟩,?_⟩;(first|omega|(dsimp only;omega)|skip))
  ·obtain rfl:i=cs.length:=by omega
   rw [xi]
   generalize hw1:(w0 && cs.all rightB)=w1
   (repeat' ((conv=>whnf);first|refine zO ?_|refine Ob.auto ?_|(refine Ob.intro (by (first|exact ⟨by omega,by omega⟩)) ?_)|(apply zB <;> intro hb <;> (try simp [-zd] at hb) <;> try (exfalso;omega))|refine Ob.intro ?_ ?_))
   ((conv=>whnf);refine jc (fun _=>rfl) 300 3 (fun i:Nat=>[(9,iv i),(7,.bool (w1 && (a.take i).all fun l=>qac [l] m))]) (fun _=>[]) (fun i=>i≤a.length) (fun i=>a.length - i) (0) (zz _) ⟨Le.refl _,Le.of_eq (congrArg AV.bool (Bool.and_true _).symm),trivial⟩ qa (fun _=>rfl) (by kernel_rfl) ?_;(conv=>whnf))
   intro q hq
   by_cases hql:q<a.length
   ·have hhc:=qwv [a.getD q 0] m (zbh rfl)
    have hle:Le (.slc 1 (((q:Int)+1).toNat - (q:Int).toNat) fun k=>encL (fun n=>[iv n]) 0 a ((q:Int).toNat+k)) (ints [a.getD q 0]):=Le.slc (by show _=1;omega) fun k hk=>by
     have hk:k=0:=by omega
     subst hk
     rfl
    have hnx:(w1 && (a.take (q+1)).all fun l=>qac [l] m)=((w1 && (a.take q).all fun l=>qac [l] m) && qac [a.getD q 0] m):=by
     rw [jjo hql,List.all_append,Bool.and_assoc]
     simp
    generalize (w1 && (a.take q).all fun l=>qac [l] m)=w at hnx ⊢
    replace hnx:=Hid.in hnx
    (repeat' ((conv=>whnf);first|refine zO ?_|refine Ob.auto ?_|(refine Ob.intro (by (first|exact ⟨by omega,by omega⟩|exact fun hg=>⟨hg,by omega,by omega⟩|exact fun hg=>⟨hg,hg,hg,by omega,by omega,by omega⟩)) ?_)|(apply zB <;> intro hb <;> (try simp [-zd] at hb) <;> try (exfalso;omega))|refine Ob.intro ?_ ?_))
    ((conv=>whnf);refine qdp (fun _=>rfl) 300 (fun _=>hhc) (by rfl) (fun hg=>⟨(Le.cnd hg).trans hle,Le.cnd hg,trivial⟩) (by kernel_rfl) ?_)
    (repeat' ((conv=>whnf);first|refine zO ?_|refine Ob.auto ?_|(refine Ob.intro (by (first|exact ⟨by omega,by omega⟩)) ?_)|(apply zB <;> intro hb <;> (try simp [-zd] at hb) <;> try (exfalso;omega))|refine Ob.intro ?_ ?_))
    ((conv=>whnf);refine ⟨q+1,hql,⟨(by
     rw [hnx.out]
     (repeat' (first|exact trivial|exact rfl|exact Le.refl _|exact SoLe.refl _|refine And.intro ?_ ?_))),qa⟩,⟨qa,qa⟩,?_⟩;(first|omega|(dsimp only;omega)|skip))
   ·obtain rfl:q=a.length:=by omega
    rw [xi]
    have hfin:qfw cs m a=(w1 && a.all fun l=>qac [l] m):=by
     unfold qfw
     rw [← hw1,← hw]
     cases cs.all rightB <;> cases rightB a <;> cases allB cs m <;> rfl
    rw [hfin] at hm
    replace hfin:=Hid.in hfin
    (repeat' ((conv=>whnf);first|refine zO ?_|refine Ob.auto ?_|(refine Ob.intro (by (first|exact ⟨by omega,by omega⟩)) ?_)|refine zC 300 (hm) ?_|refine zG 300 (fun hg=>hm) ?_|(refine CallY.con (hm) (by rfl) leA ?_)|(refine CallZ.con (fun hg=>hm) qf (by rfl) ?_)|(refine qh (fun _=>rfl) 300 (hm) qc (by (repeat' (first|exact trivial|exact Le.refl _|(refine And.intro ?_ ?_))) <;> fail) (by rfl) (by kernel_rfl) ?_)|(refine qi (fun _=>rfl) 300 (fun hg=>hm) (fun hg=>qc) (fun hg=>(by (repeat' (first|exact trivial|exact Le.refl _|exact Le.cnd hg|(refine And.intro ?_ ?_))) <;> fail)) (by rfl) (by kernel_rfl) ?_)|(apply zB <;> intro hb <;> (try simp [-zd] at hb) <;> try (exfalso;omega))|refine Ob.intro ?_ ?_))
    refine Le.of_eq (congrArg AV.bool ?_)
    exact beq_self_eq_true _
 ·refine zK {} 300 Try.func7 (fun c0 rdb=>?_)
  (repeat' ((conv=>whnf);first|refine zO ?_|refine Ob.auto ?_|(refine Ob.intro (by (first|exact ⟨by omega,by omega⟩)) ?_)|refine zC 300 (qcf) ?_|refine zG 300 (fun hg=>qcf) ?_|(refine CallY.con (qcf) (by rfl) leA ?_)|(refine CallZ.con (fun hg=>qcf) qf (by rfl) ?_)|refine zC 300 (hsm) ?_|refine zG 300 (fun hg=>hsm) ?_|(refine CallY.con (hsm) (by rfl) leA ?_)|(refine CallZ.con (fun hg=>hsm) qf (by rfl) ?_)|(refine qh (fun _=>rfl) 300 (qcf) qc (by (repeat' (first|exact trivial|exact Le.refl _|(refine And.intro ?_ ?_))) <;> fail) (by rfl) (by kernel_rfl) ?_)|(refine qi (fun _=>rfl) 300 (fun hg=>qcf) (fun hg=>qc) (fun hg=>(by (repeat' (first|exact trivial|exact Le.refl _|exact Le.cnd hg|(refine And.intro ?_ ?_))) <;> fail)) (by rfl) (by kernel_rfl) ?_)|(refine qh (fun _=>rfl) 300 (hsm) qc (by (repeat' (first|exact trivial|exact Le.refl _|(refine And.intro ?_ ?_))) <;> fail) (by rfl) (by kernel_rfl) ?_)|(refine qi (fun _=>rfl) 300 (fun hg=>hsm) (fun hg=>qc) (fun hg=>(by (repeat' (first|exact trivial|exact Le.refl _|exact Le.cnd hg|(refine And.intro ?_ ?_))) <;> fail)) (by rfl) (by kernel_rfl) ?_)|(apply zB <;> intro hb <;> (try simp [-zd] at hb) <;> try (exfalso;omega))|refine Ob.intro ?_ ?_))
  ·exact Le.refl _
  ·exfalso
   exact hs ⟨hb.1.1,by omega,by omega⟩
end Go.Proofs.Ytkhdldncbmkidaa
