/- Contracts: the document's Conflict. -/
import Derived.Test.YtkhdldncbmkidaaY336
import Derived.Test.YtkhdldncbmkidaaY319
import Derived.Test.YtkhdldncbmkidaaY32
set_option linter.unusedSimpArgs false
set_option linter.unusedVariables false
namespace Go.Proofs.Ytkhdldncbmkidaa
open List renaming getD_eq_getElem?_getD → zd
open Go Go.Sx Go.RowKit Go.Ru Go.Cl Go.St
set_option maxRecDepth 100000
set_option maxHeartbeats 8000000
theorem qyq {so:List Int} {l:Int}:∀ (r pre:List Int),jj so pre (r++[l])=jj so pre r++if l ∉ so∧-l ∉ so∧l ∉ pre++r then [l] else []
 | [],pre=>by
  rw [zba,zas]
  unfold jj
  unfold jj
  split <;> rfl
 | x::r,pre=>by
  rw [List.cons_append]
  unfold jj
  have ih:=qyq (so:=so) (l:=l) r (pre++[x])
  rw [xe,List.singleton_append] at ih
  rw [ih]
  split <;> rfl
def qnk (l:List Int):Int:=l.getD (l.length - 1) 0
theorem jkx (l:List Int) (x:Int):qnk (l++[x])=x:=by
 unfold qnk
 rw [zi,zd]
 simp
theorem qnl {l:List Int} {i:Nat} (h:i<l.length):l.take (i+1)=l.take i++[l.getD i 0]:=by
 rw [zal,zb h,zd,zb h];rfl
theorem jky {so:List Int} {cs:List (List Int)} (h:∀ j,j<cs.length→qbx so (cs.getD j [])=false):cs.find? (qbx so)=none:=by
 rw [List.find?_eq_none]
 intro c hc
 obtain ⟨j,hj,rfl⟩:=qal [] hc
 rw [h j hj]
 decide
theorem jkz {so:List Int} {cs:List (List Int)} {i:Nat} (hi:i<cs.length) (h:∀ j,j<i→qbx so (cs.getD j [])=false) (hu:qbx so (cs.getD i [])=true):cs.find? (qbx so)=some (cs.getD i []):=by
 rw [List.find?_eq_some_iff_getElem]
 refine ⟨hu,i,hi,by rw [zd,zb hi];rfl,fun j hj=>?_⟩
 have:=h j hj
 rw [zd,zb (by omega)] at this
 simpa using this
theorem jla {so:List Int} {l:Int} {f0:Nat→List AV} {g:Nat→List AV} (hg:g 0=[iv l]) (k:Nat) (hk:k<so.length+1):appF (0+so.length) (appF 0 f0 so.length (encL (fun n=>[iv n]) 0 so)) 1 g k=encL (fun n=>[iv n]) 0 (so++[l]) k:=by
 unfold appF encL
 rw [zd (l:=so++[l])]
 by_cases h:k<so.length
 ·rw [za (by omega),ze (by omega),za (by omega),zbr,zn h,zd]
 ·obtain rfl:k=so.length:=by omega
  rw [ze (by omega),za (by omega),show so.length - (0+so.length)=0 by omega,hg,zl (zj _),zad];rfl
theorem qyr:∀ (f:Nat) (cs:List (List Int)) (so:List Int),left cs so<f→so.length+f≤1000000→cs.length≤1000000→(∀ c∈cs,c.length≤1000000)→cs.all rightB=true→rightB so=true→Con Try.prog 50 [qak cs,ints so] (.bool (qam f cs so))
 | 0,cs,so,h,_,_,_,_,_=>absurd h (zo _)
 | f+1,cs,so,hlf,hf,hl,hm,hr,hs=>by
  have hlit:∀ x∈so,litB x=true:=List.all_eq_true.1 hs
  refine zK {owns:=[(77,(3,1))]} 300 Try.func50 (fun c0 rdb=>?_)
  (repeat' ((conv=>whnf);first|refine zO ?_|refine Ob.auto ?_|(apply zB <;> intro hb <;> (try simp [-zd] at hb) <;> try (exfalso;omega))|refine Ob.intro ?_ ?_))
  ((conv=>whnf);refine qw (fun _=>rfl) 300 1 (fun i:Nat=>[(5,iv i)]) (fun _=>[]) (fun i=>i≤so.length∧∀ j,j<i→-(so.getD j 0) ∉ so) (fun i=>so.length - i) (0) (⟨zv _,fun j hj=>absurd hj (zo j)⟩) qa qa (fun _=>rfl) (by kernel_rfl) ?_;(conv=>whnf))
  rintro i ⟨hi,hno⟩
  by_cases hil:i<so.length
  ·have hx:=(jy _).1 (hlit _ (qj (d:=0) hil))
   have hin:Con Try.prog 65 [iv (0 - so.getD i 0),ints so] (.bool (decide (-(so.getD i 0)∈so))):=by rw [Int.zero_sub];exact qhn (-(so.getD i 0)) so (by omega)
   have hni:inR .i64 (0 - so.getD i 0):=qbh (by omega) (by omega)
   replace hno:=Hid.in hno
   (repeat' ((conv=>whnf);first|refine zO ?_|refine Ob.auto ?_|(refine Ob.intro (by (first|exact ⟨by omega,by omega⟩|exact hni)) ?_)|refine zC 300 (hin) ?_|refine zG 300 (fun hg=>hin) ?_|(refine CallY.con (hin) (by rfl) leA ?_)|(refine CallZ.con (fun hg=>hin) qf (by rfl) ?_)|(refine qg (fun _=>rfl) 300 (hin) qc (by (repeat' (first|exact trivial|exact Le.refl _|(refine And.intro ?_ ?_))) <;> fail) (by rfl) (by kernel_rfl) ?_)|(refine qi (fun _=>rfl) 300 (fun hg=>hin) (fun hg=>qc) (fun hg=>(by (repeat' (first|exact trivial|exact Le.refl _|exact Le.cnd hg|(refine And.intro ?_ ?_))) <;> fail)) (by rfl) (by kernel_rfl) ?_)|(apply zB <;> intro hb <;> (try simp [-zd] at hb) <;> try (exfalso;omega))|refine Ob.intro ?_ ?_))
   ·have hf:qam (f+1) cs so=true:=by
     unfold qam
     rw [za (List.any_eq_true.2 ⟨_,qj (d:=0) hil,xn hb⟩)]
    rw [hf]
    exact Le.refl _
   ·((conv=>whnf);refine ⟨i+1,⟨hil,fun j hj=>by
     by_cases e:j=i
     ·subst e;exact hb
     ·exact hno.out j (by omega)⟩,⟨qa,qa⟩,⟨qa,qa⟩,?_⟩;(first|omega|(dsimp only;omega)|skip))
  ·have hany:(so.any fun l=>decide (-l∈so))=false:=by
    rw [zbp]
    intro x hx
    obtain ⟨j,hj,rfl⟩:=qal 0 hx
    rw [xx (hno j (by omega))]
    decide
   have hcf0:cs.find? (qbx so)=none→qam (f+1) cs so=false:=fun h=>by
    rw [qam,ze (by rw [hany];decide),h]
   have hcf1:∀ c,cs.find? (qbx so)=some c→jj so [] c=[]→qam (f+1) cs so=true:=fun c h h'=>by
    rw [qam,ze (by rw [hany];decide),h]
    simp only
    rw [h']
   have hcf2:∀ c l r,cs.find? (qbx so)=some c→jj so [] c=l::r→qam (f+1) cs so=qam f cs (so++[l]):=fun c l r h h'=>by
    rw [qam,ze (by rw [hany];decide),h]
    simp only
    rw [h']
   generalize hR:qam (f+1) cs so=R at hcf0 hcf1 hcf2 ⊢
   replace hR:=Hid.in hR
   replace hcf0:=Hid.in hcf0
   replace hcf1:=Hid.in hcf1
   replace hcf2:=Hid.in hcf2
   replace hno:=Hid.in hno
   (repeat' ((conv=>whnf);first|refine zO ?_|refine Ob.auto ?_|(apply zB <;> intro hb <;> (try simp [-zd] at hb) <;> try (exfalso;omega))|refine Ob.intro ?_ ?_))
   ((conv=>whnf);refine qw (fun _=>rfl) 300 3 (fun i:Nat=>[(6,iv i)]) (fun _=>[]) (fun i=>i≤cs.length∧∀ j,j<i→qbx so (cs.getD j [])=false) (fun i=>cs.length - i) (0) (⟨zv _,fun j hj=>absurd hj (zo j)⟩) qa qa (fun _=>rfl) (by kernel_rfl) ?_;(conv=>whnf))
   rintro i ⟨hi,hnu⟩
   by_cases hil:i<cs.length
   ·have hcl:=hm _ (qj (d:=[]) hil)
    have hcr:rightB (cs.getD i [])=true:=List.all_eq_true.1 hr _ (qj hil)
    replace hnu:=Hid.in hnu
    (repeat' ((conv=>whnf);first|refine zO ?_|refine Ob.auto ?_|(refine Ob.intro (by (first|exact ⟨by omega,by omega⟩|exact ⟨⟨rfl,rfl⟩,zf _,Int.ofNat_lt.2 hil⟩|exact ⟨⟨rfl,rfl⟩,hil⟩)) ?_)|(apply zB <;> intro hb <;> (try simp [-zd] at hb) <;> try (exfalso;omega))|refine Ob.intro ?_ ?_))
    ((conv=>whnf);refine qw (fun _=>rfl) 300 5 (fun q:Nat=>[(10,iv q),(7,iv ((jj so [] ((cs.getD i []).take q)).length:Nat)),(8,iv (qnk (jj so [] ((cs.getD i []).take q)))),(9,.bool (((cs.getD i []).take q).any fun l=>decide (l∈so)))]) (fun _=>[]) (fun q=>q≤(cs.getD i []).length) (fun q=>(cs.getD i []).length - q) (0) (zv _) qa qa (fun _=>rfl) (by kernel_rfl) ?_;(conv=>whnf))
    intro q hq
    have hol:(jj so [] ((cs.getD i []).take q)).length≤1000000:=by
     refine zr ((qmy _ _).length_le_of_subset (l₂:=cs.getD i []) fun x hx=>zab ((qdo _ _).1 hx).1) hcl
    by_cases hql:q<(cs.getD i []).length
    ·have hx:=(jy _).1 (List.all_eq_true.1 hcr _ (qj (d:=0) hql))
     have hsn:=qyq (so:=so) (l:=(cs.getD i []).getD q 0) ((cs.getD i []).take q) []
     rw [← qnl hql,zba] at hsn
     have han:((cs.getD i []).take (q+1)).any (fun l=>decide (l∈so))=(((cs.getD i []).take q).any (fun l=>decide (l∈so)) || decide ((cs.getD i []).getD q 0∈so)):=by
      rw [qnl hql,List.any_append];simp
     have hlq:((cs.getD i []).take q).length=q:=by rw [zu];omega
     have hin1:=qhn ((cs.getD i []).getD q 0) so (by omega)
     have hin2:Con Try.prog 65 [iv (0 - (cs.getD i []).getD q 0),ints so] (.bool (decide (-((cs.getD i []).getD q 0)∈so))):=by rw [Int.zero_sub];exact qhn _ so (by omega)
     have hin3:=qhn ((cs.getD i []).getD q 0) ((cs.getD i []).take q) (by omega)
     have hni:inR .i64 (0 - (cs.getD i []).getD q 0):=qbh (by omega) (by omega)
     replace hsn:=Hid.in hsn
     replace han:=Hid.in han
     replace hin3:=Hid.in hin3
     replace hin2:=Hid.in hin2
     (repeat' ((conv=>whnf);first|refine zO ?_|refine Ob.auto ?_|(refine Ob.intro (by (first|exact ⟨by omega,by omega⟩|exact ⟨⟨rfl,rfl⟩,zf _,Int.ofNat_lt.2 hil⟩|exact ⟨⟨rfl,rfl⟩,hil⟩|exact ⟨⟨rfl,rfl⟩,zf _,Int.ofNat_lt.2 hql⟩|exact ⟨⟨rfl,rfl⟩,hql⟩|exact hni)) ?_)|(apply zB <;> intro hb <;> (try simp [-zd] at hb) <;> try (exfalso;omega))|refine Ob.intro ?_ ?_))
     ((conv=>whnf);refine jl (fun _=>rfl) 300 hin1 (by rfl) leA (by kernel_rfl) ?_)
     replace hin1:=Hid.in hin1
     by_cases hm1:(cs.getD i []).getD q 0∈so
     ·rw [xn hm1]
      (repeat' ((conv=>whnf);first|refine zO ?_|refine Ob.auto ?_|(refine Ob.intro (by (first|exact ⟨by omega,by omega⟩|exact ⟨⟨rfl,rfl⟩,zf _,Int.ofNat_lt.2 hil⟩|exact ⟨⟨rfl,rfl⟩,hil⟩|exact ⟨⟨rfl,rfl⟩,zf _,Int.ofNat_lt.2 hql⟩|exact ⟨⟨rfl,rfl⟩,hql⟩|exact hni)) ?_)|(apply zB <;> intro hb <;> (try simp [-zd] at hb) <;> try (exfalso;omega))|refine Ob.intro ?_ ?_))
      have e1:jj so [] ((cs.getD i []).take (q+1))=jj so [] ((cs.getD i []).take q):=by rw [hsn.out,ze (fun h=>h.1 hm1),zas]
      have e2:((cs.getD i []).take (q+1)).any (fun l=>decide (l∈so))=true:=by rw [han.out,xn hm1,Bool.or_true]
      ((conv=>whnf);refine ⟨q+1,hql,⟨(by
       rw [e1,e2]
       (repeat' (first|exact trivial|exact rfl|exact Le.refl _|exact SoLe.refl _|refine And.intro ?_ ?_))),qa⟩,⟨qa,qa⟩,?_⟩;(first|omega|(dsimp only;omega)|skip))
     ·rw [xx hm1]
      (repeat' ((conv=>whnf);first|refine zO ?_|refine Ob.auto ?_|(refine Ob.intro (by (first|exact ⟨by omega,by omega⟩|exact ⟨⟨rfl,rfl⟩,zf _,Int.ofNat_lt.2 hil⟩|exact ⟨⟨rfl,rfl⟩,hil⟩|exact ⟨⟨rfl,rfl⟩,zf _,Int.ofNat_lt.2 hql⟩|exact ⟨⟨rfl,rfl⟩,hql⟩|exact hni)) ?_)|(apply zB <;> intro hb <;> (try simp [-zd] at hb) <;> try (exfalso;omega))|refine Ob.intro ?_ ?_))
      ((conv=>whnf);refine jl (fun _=>rfl) 300 hin2.out (by rfl) leA (by kernel_rfl) ?_)
      (repeat' ((conv=>whnf);first|refine zO ?_|refine Ob.auto ?_|(refine Ob.intro (by (first|exact ⟨by omega,by omega⟩|exact ⟨⟨rfl,rfl⟩,zf _,Int.ofNat_lt.2 hil⟩|exact ⟨⟨rfl,rfl⟩,hil⟩|exact ⟨⟨rfl,rfl⟩,zf _,Int.ofNat_lt.2 hql⟩|exact ⟨⟨rfl,rfl⟩,hql⟩|exact hni)) ?_)|(apply zB <;> intro hb <;> (try simp [-zd] at hb) <;> try (exfalso;omega))|refine Ob.intro ?_ ?_))
      ((conv=>whnf);refine qbg (fun _=>rfl) 300 (fun _=>hin3.out) (by rfl) (fun hg=>⟨Le.cnd hg,Le.trans (Le.cnd hg) (Le.slc hlq.symm (fun j hj=>qvy hj)),trivial⟩) (by kernel_rfl) ?_)
      have e2:((cs.getD i []).take (q+1)).any (fun l=>decide (l∈so))=((cs.getD i []).take q).any (fun l=>decide (l∈so)):=by rw [han.out,xx hm1,Bool.or_false]
      (repeat' ((conv=>whnf);first|refine zO ?_|refine Ob.auto ?_|(refine Ob.intro (by (first|exact ⟨by omega,by omega⟩|exact ⟨⟨rfl,rfl⟩,zf _,Int.ofNat_lt.2 hil⟩|exact ⟨⟨rfl,rfl⟩,hil⟩|exact ⟨⟨rfl,rfl⟩,zf _,Int.ofNat_lt.2 hql⟩|exact ⟨⟨rfl,rfl⟩,hql⟩|exact hni)) ?_)|(apply zB <;> intro hb <;> (try simp [-zd] at hb) <;> try (exfalso;omega))|refine Ob.intro ?_ ?_))
      ·have e1:jj so [] ((cs.getD i []).take (q+1))=jj so [] ((cs.getD i []).take q)++[(cs.getD i []).getD q 0]:=by rw [hsn.out,za ⟨hm1,hb.1,hb.2⟩]
       have e3:(jj so [] ((cs.getD i []).take (q+1))).length=(jj so [] ((cs.getD i []).take q)).length+1:=by rw [e1,zi];rfl
       have e4:qnk (jj so [] ((cs.getD i []).take (q+1)))=(cs.getD i []).getD q 0:=by rw [e1,jkx]
       ((conv=>whnf);refine ⟨q+1,hql,⟨(by
        rw [e2,e3,e4]
        (repeat' (first|exact trivial|exact rfl|exact Le.refl _|exact SoLe.refl _|refine And.intro ?_ ?_))),qa⟩,⟨qa,qa⟩,?_⟩;(first|omega|(dsimp only;omega)|skip))
      ·have e1:jj so [] ((cs.getD i []).take (q+1))=jj so [] ((cs.getD i []).take q):=by
        rw [hsn.out,ze (fun h=>h.2.2 (hb h.2.1)),zas]
       ((conv=>whnf);refine ⟨q+1,hql,⟨(by
        rw [e1,e2]
        (repeat' (first|exact trivial|exact rfl|exact Le.refl _|exact SoLe.refl _|refine And.intro ?_ ?_))),qa⟩,⟨qa,qa⟩,?_⟩;(first|omega|(dsimp only;omega)|skip))
    ·obtain rfl:q=(cs.getD i []).length:=by omega
     rw [xi] at hol ⊢
     have hub:qbx so (cs.getD i [])=(!((cs.getD i []).any fun l=>decide (l∈so)) && decide ((jj so [] (cs.getD i [])).length≤1)):=rfl
     generalize hh:((cs.getD i []).any fun l=>decide (l∈so))=hold at hub ⊢
     generalize hoo:jj so [] (cs.getD i [])=os at hub hol ⊢
     replace hh:=Hid.in hh
     replace hoo:=Hid.in hoo
     cases hold with
     | true=>
      (repeat' ((conv=>whnf);first|refine zO ?_|refine Ob.auto ?_|(refine Ob.intro (by (first|exact ⟨by omega,by omega⟩)) ?_)|(apply zB <;> intro hb <;> (try simp [-zd] at hb) <;> try (exfalso;omega))|refine Ob.intro ?_ ?_))
      ((conv=>whnf);refine ⟨i+1,⟨hil,fun j hj=>by
       by_cases e:j=i
       ·subst e;exact hub
       ·exact hnu.out j (by omega)⟩,⟨qa,qa⟩,⟨qa,qa⟩,?_⟩;(first|omega|(dsimp only;omega)|skip))
     | false=>
      by_cases ho1:1<os.length
      ·(repeat' ((conv=>whnf);first|refine zO ?_|refine Ob.auto ?_|(refine Ob.intro (by (first|exact ⟨by omega,by omega⟩)) ?_)|(apply zB <;> intro hb <;> (try simp [-zd] at hb) <;> try (exfalso;omega))|refine Ob.intro ?_ ?_))
       ((conv=>whnf);refine ⟨i+1,⟨hil,fun j hj=>by
        by_cases e:j=i
        ·subst e;rw [hub,xx (by omega)];rfl
        ·exact hnu.out j (by omega)⟩,⟨qa,qa⟩,⟨qa,qa⟩,?_⟩;(first|omega|(dsimp only;omega)|skip))
      ·have huT:qbx so (cs.getD i [])=true:=by rw [hub,xn (by omega)];rfl
       have hfs:=jkz hil hnu.out huT
       cases os with
       | nil=>
        have hRt:R=true:=hcf1.out _ hfs hoo.out
        rw [hRt]
        replace hRt:=Hid.in hRt
        (repeat' ((conv=>whnf);first|refine zO ?_|refine Ob.auto ?_|(refine Ob.intro (by (first|exact ⟨by omega,by omega⟩)) ?_)|(apply zB <;> intro hb <;> (try simp [-zd] at hb) <;> try (exfalso;omega))|refine Ob.intro ?_ ?_))
        exact Le.refl _
       | cons l r=>
        have hr0:r=[]:=by
         cases r with
         | nil=>rfl
         | cons a b=>simp at ho1
        subst hr0
        have hRr:R=qam f cs (so++[l]):=hcf2.out _ _ _ hfs hoo.out
        rw [hRr]
        have hlm:=(qdo (so:=so) (x:=l) (cs.getD i []) []).1 (by rw [hoo.out];exact xm ..)
        have hlit2:litB l=true:=List.all_eq_true.1 hcr l hlm.1
        have hlt:=qxa (cs:=cs) (so:=so) (l:=l) (List.mem_flatten.2 ⟨_,qj hil,hlm.1⟩) hlm.2.1
        have ih:=qyr f cs (so++[l]) (by omega) (by rw [zi,zae];omega) hl hm hr (by unfold rightB at hs ⊢;rw [List.all_append,hs];simp [hlit2])
        replace hRr:=Hid.in hRr
        replace ih:=Hid.in ih
        (repeat' ((conv=>whnf);first|refine zO ?_|refine Ob.auto ?_|(refine Ob.intro (by (first|exact ⟨by omega,by omega⟩|exact ⟨⟨rfl,rfl⟩,qcm (b:=(tab Try.prog 3).bytes) (by omega) (by decide +kernel)⟩)) ?_)|(apply zB <;> intro hb <;> (try simp [-zd] at hb) <;> try (exfalso;omega))|refine Ob.intro ?_ ?_))
        ((conv=>whnf);refine qg (fun _=>rfl) 300 ih.out qc ⟨Le.refl _,Le.slc (by rw [zi,zae];omega) (fun k hk=>jla rfl k (by omega)),trivial⟩ (by rfl) (by kernel_rfl) ?_)
        (repeat' ((conv=>whnf);first|refine zO ?_|refine Ob.auto ?_|(refine Ob.intro (by (first|exact ⟨by omega,by omega⟩)) ?_)|(apply zB <;> intro hb <;> (try simp [-zd] at hb) <;> try (exfalso;omega))|refine Ob.intro ?_ ?_))
        exact Le.refl _
   ·have hR0:R=false:=hcf0.out (jky fun j hj=>hnu j (by omega))
    rw [hR0]
    replace hR0:=Hid.in hR0
    replace hnu:=Hid.in hnu
    (repeat' ((conv=>whnf);first|refine zO ?_|refine Ob.auto ?_|(refine Ob.intro (by (first|exact ⟨by omega,by omega⟩)) ?_)|(apply zB <;> intro hb <;> (try simp [-zd] at hb) <;> try (exfalso;omega))|refine Ob.intro ?_ ?_))
    exact Le.refl _
end Go.Proofs.Ytkhdldncbmkidaa
