/- Contracts: the document's Follows and Check. -/
import Derived.Test.YtkhdldncbmkidaaY3RuWJ
import Derived.Test.YtkhdldncbmkidaaY3RuWH
import Derived.Test.YtkhdldncbmkidaaY32
set_option linter.unusedSimpArgs false
set_option linter.unusedVariables false
namespace Go.Proofs.Ytkhdldncbmkidaa
open List renaming getD_eq_getElem?_getD → zd
open Go Go.Sx Go.RowKit Go.Ru Go.Cl Go.St
set_option maxRecDepth 100000
set_option maxHeartbeats 8000000
def negW (c:List Int):List Int:=c.map fun x=>IntKind.i64.wrap (0 - x)
theorem jlb {c:List Int} (h:rightB c=true):negW c=negs c:=by
 unfold negW negs
 refine xj fun x hx=>?_
 have:=(jy x).1 (List.all_eq_true.1 h x hx)
 rw [IntKind.wrap_i64]
 omega
theorem jlc {c:List Int} (h:rightB c=true):rightB (negs c)=true:=by
 refine List.all_eq_true.2 fun y hy=>?_
 obtain ⟨x,hx,rfl⟩:=List.mem_map.1 hy
 have:=(jy x).1 (List.all_eq_true.1 h x hx)
 exact (jy _).2 (by omega)
theorem jld {c:List Int} {i:Nat} (h:i<c.length):negW (c.take (i+1))=negW (c.take i)++[IntKind.i64.wrap (0 - c.getD i 0)]:=by
 rw [qnl h]
 unfold negW
 rw [zbd];rfl
theorem qjv {cs:List (List Int)} {c:List Int} (h:c∈cs):c.length≤cs.flatten.length:=by
 induction cs with
 | nil=>cases h
 | cons d r ih=>
  rw [List.flatten_cons,zi]
  rcases List.mem_cons.1 h with rfl|h
  ·omega
  ·have:=ih h;omega
theorem qys (cs:List (List Int)) (c:List Int) (hl:cs.length≤100000) (hfl:cs.flatten.length≤400000) (hcl:c.length≤100000):Con Try.prog 24 [qak cs,ints c] (.bool (jp cs c)):=by
 have hrc:=qhm c (by omega)
 refine zK {owns:=[(6,(3,1))],wraps:=[31]} 300 Try.func24 (fun c0 rdb=>?_)
 (repeat' ((conv=>whnf);first|refine zO ?_|refine Ob.auto ?_|(apply zB <;> intro hb <;> (try simp [-zd] at hb) <;> try (exfalso;omega))|refine Ob.intro ?_ ?_))
 ((conv=>whnf);refine qw (fun _=>rfl) 300 1 (fun i:Nat=>[(5,iv i)]) (fun _=>[]) (fun i=>i≤cs.length∧∀ j,j<i→rightB (cs.getD j [])=true) (fun i=>cs.length - i) (0) (⟨zv _,fun j hj=>absurd hj (zo j)⟩) qa qa (fun _=>rfl) (by kernel_rfl) ?_;(conv=>whnf))
 rintro i ⟨hi,hno⟩
 by_cases hil:i<cs.length
 ·have hc1:=qhm (cs.getD i []) (zr (qjv (qj hil)) (by omega))
  replace hno:=Hid.in hno
  (repeat' ((conv=>whnf);first|refine zO ?_|refine Ob.auto ?_|(refine Ob.intro (by (first|exact ⟨by omega,by omega⟩|exact ⟨⟨rfl,rfl⟩,zf _,Int.ofNat_lt.2 hil⟩|exact ⟨⟨rfl,rfl⟩,hil⟩)) ?_)|(apply zB <;> intro hb <;> (try simp [-zd] at hb) <;> try (exfalso;omega))|refine Ob.intro ?_ ?_))
  ((conv=>whnf);refine jl (fun _=>rfl) 300 hc1 (by rfl) leA (by kernel_rfl) ?_)
  (repeat' ((conv=>whnf);first|refine zO ?_|refine Ob.auto ?_|(refine Ob.intro (by (first|exact ⟨by omega,by omega⟩|exact ⟨⟨rfl,rfl⟩,zf _,Int.ofNat_lt.2 hil⟩|exact ⟨⟨rfl,rfl⟩,hil⟩)) ?_)|(apply zB <;> intro hb <;> (try simp [-zd] at hb) <;> try (exfalso;omega))|refine Ob.intro ?_ ?_))
  ·have hf:jp cs c=false:=by
    unfold jp
    rw [show cs.all rightB=false from List.all_eq_false.2 ⟨_,qj hil,by rw [hb];decide⟩];rfl
   rw [hf]
   exact Le.refl _
  ·((conv=>whnf);refine ⟨i+1,⟨hil,fun j hj=>by
    by_cases e:j=i
    ·subst e;exact hb
    ·exact hno.out j (by omega)⟩,⟨qa,qa⟩,⟨qa,qa⟩,?_⟩;(first|omega|(dsimp only;omega)|skip))
 ·have hall:cs.all rightB=true:=List.all_eq_true.2 fun d hd=>by
   obtain ⟨j,hj,rfl⟩:=qal [] hd
   exact hno j (by omega)
  replace hno:=Hid.in hno
  (repeat' ((conv=>whnf);first|refine zO ?_|refine Ob.auto ?_|(apply zB <;> intro hb <;> (try simp [-zd] at hb) <;> try (exfalso;omega))|refine Ob.intro ?_ ?_))
  ((conv=>whnf);refine qw (fun _=>rfl) 300 3 (fun i:Nat=>[(7,iv i),(6,.own 0 0 0 (negW (c.take i)).length)]) (fun i=>[(0,.row [] 3 1 0 (negW (c.take i)).length (encL (fun n=>[iv n]) 0 (negW (c.take i))))]) (fun i=>i≤c.length) (fun i=>c.length - i) (0) (zv _) qa (by
   repeat' (first|exact trivial|exact rfl|exact Le.refl _|exact fun j hj=>absurd hj (zo _)|refine And.intro ?_ ?_)) (fun _=>rfl) (by kernel_rfl) ?_;(conv=>whnf))
  intro q hq
  have hnl:(negW (c.take q)).length=q:=by unfold negW;rw [xq,zu];omega
  by_cases hql:q<c.length
  ·have hsn:=jld hql
   have hs1:(negW (c.take (q+1))).length=(negW (c.take q)).length+1:=by rw [hsn,zi];rfl
   replace hsn:=Hid.in hsn
   replace hs1:=Hid.in hs1
   (repeat' ((conv=>whnf);first|refine zO ?_|refine Ob.auto ?_|(refine Ob.intro (by (first|exact ⟨by omega,by omega⟩|exact ⟨⟨rfl,rfl⟩,zf _,Int.ofNat_lt.2 hql⟩|exact ⟨⟨rfl,rfl⟩,hql⟩|exact ⟨⟨rfl,rfl⟩,qcm (b:=(tab Try.prog 3).bytes) (by omega) (by decide +kernel)⟩)) ?_)|(apply zB <;> intro hb <;> (try simp [-zd] at hb) <;> try (exfalso;omega))|refine Ob.intro ?_ ?_))
   ((conv=>whnf);refine ⟨q+1,hql,⟨(by
    rw [hs1.out]
    (repeat' (first|exact trivial|exact rfl|exact Le.refl _|exact SoLe.refl _|refine And.intro ?_ ?_))),(by
    rw [hs1.out,hsn.out]
    repeat' (first|exact trivial|exact rfl|exact Le.refl _|exact app1 (enc:=fun n:Int=>[iv n]) rfl|refine And.intro ?_ ?_))⟩,⟨qa,qa⟩,?_⟩;(first|omega|(dsimp only;omega)|skip))
  ·obtain rfl:q=c.length:=by omega
   rw [xi] at hnl ⊢
   cases hr:rightB c with
   | false=>
    rw [hr] at hrc
    have hf:jp cs c=false:=by unfold jp;rw [hr,Bool.and_false];rfl
    rw [hf]
    (repeat' ((conv=>whnf);first|refine zO ?_|refine Ob.auto ?_|refine zC 300 (hrc) ?_|refine zG 300 (fun hg=>hrc) ?_|(refine CallY.con (hrc) (by rfl) leA ?_)|(refine CallZ.con (fun hg=>hrc) qf (by rfl) ?_)|(refine qg (fun _=>rfl) 300 (hrc) qc (by (repeat' (first|exact trivial|exact Le.refl _|(refine And.intro ?_ ?_))) <;> fail) (by rfl) (by kernel_rfl) ?_)|(refine qi (fun _=>rfl) 300 (fun hg=>hrc) (fun hg=>qc) (fun hg=>(by (repeat' (first|exact trivial|exact Le.refl _|exact Le.cnd hg|(refine And.intro ?_ ?_))) <;> fail)) (by rfl) (by kernel_rfl) ?_)|(apply zB <;> intro hb <;> (try simp [-zd] at hb) <;> try (exfalso;omega))|refine Ob.intro ?_ ?_))
    ((conv=>whnf);refine qgh (fun _=>rfl) 300 (.bool false) (by kernel_rfl) qf (fun he=>absurd he (by decide)) (fun he=>?_))
    (repeat' ((conv=>whnf);first|refine zO ?_|refine Ob.auto ?_|(apply zB <;> intro hb <;> (try simp [-zd] at hb) <;> try (exfalso;omega))|refine Ob.intro ?_ ?_))
    exact Le.refl _
   | true=>
    rw [hr] at hrc
    rw [jlb hr] at hnl ⊢
    have hf:jp cs c=qam (qjm cs) cs (negs c):=by unfold jp qjn;rw [hr,hall];rfl
    rw [hf]
    have hcc:=qyr (qjm cs) cs (negs c) (qxc cs _) (by unfold qjm;omega) (by omega) (fun d hd=>zr (qjv hd) (by omega)) hall (jlc hr)
    replace hcc:=Hid.in hcc
    replace hf:=Hid.in hf
    (repeat' ((conv=>whnf);first|refine zO ?_|refine Ob.auto ?_|refine zC 300 (hrc) ?_|refine zG 300 (fun hg=>hrc) ?_|(refine CallY.con (hrc) (by rfl) leA ?_)|(refine CallZ.con (fun hg=>hrc) qf (by rfl) ?_)|(refine qg (fun _=>rfl) 300 (hrc) qc (by (repeat' (first|exact trivial|exact Le.refl _|(refine And.intro ?_ ?_))) <;> fail) (by rfl) (by kernel_rfl) ?_)|(refine qi (fun _=>rfl) 300 (fun hg=>hrc) (fun hg=>qc) (fun hg=>(by (repeat' (first|exact trivial|exact Le.refl _|exact Le.cnd hg|(refine And.intro ?_ ?_))) <;> fail)) (by rfl) (by kernel_rfl) ?_)|(apply zB <;> intro hb <;> (try simp [-zd] at hb) <;> try (exfalso;omega))|refine Ob.intro ?_ ?_))
    ((conv=>whnf);refine qgh (fun _=>rfl) 300 (.bool false) (by kernel_rfl) qf (fun he=>?_) (fun he=>absurd he (by decide)))
    ((conv=>whnf);refine qg (fun _=>rfl) 300 hcc.out qc ⟨Le.refl _,Le.refl _,trivial⟩ (by rfl) (by kernel_rfl) ?_)
    (repeat' ((conv=>whnf);first|refine zO ?_|refine Ob.auto ?_|(apply zB <;> intro hb <;> (try simp [-zd] at hb) <;> try (exfalso;omega))|refine Ob.intro ?_ ?_))
    exact Le.refl _
theorem qyt (a b:List Int) (ha:a.length≤400000) (hb:b.length≤400000):Con Try.prog 53 [ints a,ints b] (.bool (qaf a b)):=by
 have h1:=qxs a (by omega)
 have h2:=qxs b (by omega)
 have h3:=jix (bif rightB a then normL a else []) (bif rightB b then normL b else []) (by
  cases rightB a
  ·exact zv _
  ·exact zr (qey a) (by omega))
 refine zK {} 300 Try.func53 (fun c0 rdb=>?_)
 (repeat' ((conv=>whnf);first|refine zO ?_|refine Ob.auto ?_|(apply zB <;> intro hb <;> (try simp [-zd] at hb) <;> try (exfalso;omega))|refine Ob.intro ?_ ?_))
 ((conv=>whnf);refine jl (fun _=>rfl) 300 h1 (by rfl) leA (by kernel_rfl) ?_)
 (repeat' ((conv=>whnf);first|refine zO ?_|refine Ob.auto ?_|(apply zB <;> intro hb <;> (try simp [-zd] at hb) <;> try (exfalso;omega))|refine Ob.intro ?_ ?_))
 ((conv=>whnf);refine jl (fun _=>rfl) 300 h2 (by rfl) leA (by kernel_rfl) ?_)
 (repeat' ((conv=>whnf);first|refine zO ?_|refine Ob.auto ?_|(apply zB <;> intro hb <;> (try simp [-zd] at hb) <;> try (exfalso;omega))|refine Ob.intro ?_ ?_))
 ((conv=>whnf);refine jl (fun _=>rfl) 300 h3 (by rfl) leA (by kernel_rfl) ?_)
 (repeat' ((conv=>whnf);first|refine zO ?_|refine Ob.auto ?_|(apply zB <;> intro hb <;> (try simp [-zd] at hb) <;> try (exfalso;omega))|refine Ob.intro ?_ ?_))
 exact Le.refl _
end Go.Proofs.Ytkhdldncbmkidaa
