/- The law RupMore. -/
import Derived.Test.YtkhdldncbmkidaaY141
import Derived.Test.YtkhdldncbmkidaaY12
set_option linter.unusedSimpArgs false
set_option linter.unusedVariables false
namespace Go.Proofs.Ytkhdldncbmkidaa
open List renaming getD_eq_getElem?_getD → zd
open Go Go.Sx Go.RowKit Go.Ru Go.Cl Go.St
set_option maxRecDepth 100000
set_option maxHeartbeats 8000000
theorem qxj {α:Type} {enc:α→List AV} {d:α} {so:List α} {l:α} {f0:Nat→List AV} {g:Nat→List AV} (hg:g 0=enc l) (k:Nat) (hk:k<so.length+1):appF (0+so.length) (appF 0 f0 so.length (encL enc d so)) 1 g k=encL enc d (so++[l]) k:=by
 unfold appF encL
 rw [zd (l:=so++[l])]
 by_cases h:k<so.length
 ·rw [za (by omega),zb (by omega),za (by omega),Nat.sub_zero,zn h,zd]
 ·obtain rfl:k=so.length:=by omega
  rw [zb (by omega),za (by omega),show so.length - (0+so.length)=0 by omega,hg,zm (zi _),zaf];rfl
theorem jjd {cs:List (List Int)} {n v:Int} (hn:n≤100000) (h:qds cs n v=true):cs.length≤100000∧(∀ c∈cs,c.length≤30)∧(cs.length:Int)≤n:=by
 obtain ⟨h1,h2⟩:=jiz h
 exact ⟨by omega,fun c hc=>(h2 c hc).1,h1⟩
theorem jje (cs:List (List Int)) (more c:List Int):Con Try.prog 5 [qbf cs,ints more,ints c] (.bool true):=by
 have hsm:=jja cs 30 100000 (by decide)
 by_cases hm:more.length≤12
 ·have hrm:=qwm more (by omega)
  by_cases hs:qds cs 30 100000=true∧c.length≤12∧rightB more=true
  ·obtain ⟨h1,h2,h3⟩:=hs
   obtain ⟨h4,h5,h6⟩:=jjd (by decide) h1
   rw [h1] at hsm
   rw [h3] at hrm
   have hlen:(cs++[more]).length=cs.length+1:=by rw [zj];rfl
   have hal:∀ d∈cs++[more],d.length≤100000:=fun d hd=>by
    rcases List.mem_append.1 hd with hd|hd
    ·have:=h5 d hd;omega
    ·rw [zk] at hd;subst hd;omega
   have hc1:=qja cs c (by omega) (fun d hd=>by have:=h5 d hd;omega) (by omega)
   have hc2:=qja (cs++[more]) c (by omega) hal (by omega)
   have hc3:=qja (cs++[more]) more (by omega) hal (by omega)
   rw [qmh (by omega) (fun d hd=>by have:=h5 d hd;omega)] at hc1
   rw [qmh (by omega) hal] at hc2 hc3
   have hmono:=jjc (cs:=cs) (c:=c) h3
   have hin:cs.all rightB=true→jx (cs++[more]) more=true:=fun h=>jjb (by rw [List.all_append,h];simp [h3]) (List.mem_append_right _ (List.mem_singleton.2 rfl))
   replace hal:=Hid.in hal
   refine zK {owns:=[(32,(23,1))]} 300 Try.func5 (fun c0 rdb=>?_)
   (repeat' ((conv=>whnf);first|refine zO ?_|refine Ob.auto ?_|(refine Ob.intro (by (first|exact ⟨by omega,by omega⟩)) ?_)|refine zC 300 (ju) ?_|refine zG 300 (fun hg=>ju) ?_|(refine CallY.con (ju) (by rfl) leA ?_)|(refine CallZ.con (fun hg=>ju) qh (by rfl) ?_)|refine zC 300 (hsm) ?_|refine zG 300 (fun hg=>hsm) ?_|(refine CallY.con (hsm) (by rfl) leA ?_)|(refine CallZ.con (fun hg=>hsm) qh (by rfl) ?_)|refine zC 300 (hrm) ?_|refine zG 300 (fun hg=>hrm) ?_|(refine CallY.con (hrm) (by rfl) leA ?_)|(refine CallZ.con (fun hg=>hrm) qh (by rfl) ?_)|(refine qo (fun _=>rfl) 300 (ju) qd (by (repeat' (first|exact trivial|exact Le.refl _|(refine And.intro ?_ ?_))) <;> fail) (by rfl) (by kernel_rfl) ?_)|(refine qp (fun _=>rfl) 300 (fun hg=>ju) (fun hg=>qd) (fun hg=>(by (repeat' (first|exact trivial|exact Le.refl _|exact Le.cnd hg|(refine And.intro ?_ ?_))) <;> fail)) (by rfl) (by kernel_rfl) ?_)|(refine qo (fun _=>rfl) 300 (hsm) qd (by (repeat' (first|exact trivial|exact Le.refl _|(refine And.intro ?_ ?_))) <;> fail) (by rfl) (by kernel_rfl) ?_)|(refine qp (fun _=>rfl) 300 (fun hg=>hsm) (fun hg=>qd) (fun hg=>(by (repeat' (first|exact trivial|exact Le.refl _|exact Le.cnd hg|(refine And.intro ?_ ?_))) <;> fail)) (by rfl) (by kernel_rfl) ?_)|(refine qo (fun _=>rfl) 300 (hrm) qd (by (repeat' (first|exact trivial|exact Le.refl _|(refine And.intro ?_ ?_))) <;> fail) (by rfl) (by kernel_rfl) ?_)|(refine qp (fun _=>rfl) 300 (fun hg=>hrm) (fun hg=>qd) (fun hg=>(by (repeat' (first|exact trivial|exact Le.refl _|exact Le.cnd hg|(refine And.intro ?_ ?_))) <;> fail)) (by rfl) (by kernel_rfl) ?_)|(apply zB <;> intro hb <;> (try simp [-zd] at hb) <;> try (exfalso;omega))|refine Ob.intro ?_ ?_))
   ((conv=>whnf);refine qbg (fun _=>rfl) 300 hc1 (by rfl) leA (by kernel_rfl) ?_)
   generalize hF1:jx cs c=F1 at hc1 hmono ⊢
   generalize hF2:jx (cs++[more]) c=F2 at hc2 hmono
   replace hc1:=Hid.in hc1
   replace hF1:=Hid.in hF1
   replace hF2:=Hid.in hF2
   (repeat' ((conv=>whnf);first|refine zO ?_|refine Ob.auto ?_|(refine Ob.intro (by (first|exact ⟨by omega,by omega⟩)) ?_)|(apply zB <;> intro hb <;> (try simp [-zd] at hb) <;> try (exfalso;omega))|refine Ob.intro ?_ ?_))
   ((conv=>whnf);refine qp (fun _=>rfl) 300 (fun _=>hc2) qd (fun hg=>⟨Le.trans (Le.of_eq rfl) (Le.trans (Le.cnd hg) (Le.slc (by rw [hlen];omega) (fun k hk=>qxj (enc:=fun d:List Int=>[ints d]) rfl k (by omega)))),Le.cnd hg,trivial⟩) (by rfl) (by kernel_rfl) ?_)
   replace hc2:=Hid.in hc2
   (repeat' ((conv=>whnf);first|refine zO ?_|refine Ob.auto ?_|(refine Ob.intro (by (first|exact ⟨by omega,by omega⟩)) ?_)|(apply zB <;> intro hb <;> (try simp [-zd] at hb) <;> try (exfalso;omega))|refine Ob.intro ?_ ?_))
   ·exact absurd (hmono hb.1) (by rw [hb.2];decide)
   replace hmono:=Hid.in hmono
   ((conv=>whnf);refine jp (fun _=>rfl) 300 1 (fun i:Nat=>[(8,iv i)]) (fun _=>[]) (fun i=>i≤cs.length∧∀ j,j<i→rightB (cs.getD j [])=true) (fun i=>cs.length - i) (0) (⟨xb _,fun j hj=>absurd hj (zw j)⟩) qb qb (fun _=>rfl) (by kernel_rfl) ?_;(conv=>whnf))
   rintro i ⟨hi,hno⟩
   by_cases hil:i<cs.length
   ·have hci:=qwm (cs.getD i []) (by have:=h5 _ (qq (d:=[]) hil);omega)
    replace hno:=Hid.in hno
    (repeat' ((conv=>whnf);first|refine zO ?_|refine Ob.auto ?_|(refine Ob.intro (by (first|exact ⟨by omega,by omega⟩|exact ⟨⟨rfl,rfl⟩,zg _,Int.ofNat_lt.2 hil⟩|exact ⟨⟨rfl,rfl⟩,hil⟩)) ?_)|(apply zB <;> intro hb <;> (try simp [-zd] at hb) <;> try (exfalso;omega))|refine Ob.intro ?_ ?_))
    ((conv=>whnf);refine qbg (fun _=>rfl) 300 hci (by rfl) leA (by kernel_rfl) ?_)
    (repeat' ((conv=>whnf);first|refine zO ?_|refine Ob.auto ?_|(refine Ob.intro (by (first|exact ⟨by omega,by omega⟩|exact ⟨⟨rfl,rfl⟩,zg _,Int.ofNat_lt.2 hil⟩|exact ⟨⟨rfl,rfl⟩,hil⟩)) ?_)|(apply zB <;> intro hb <;> (try simp [-zd] at hb) <;> try (exfalso;omega))|refine Ob.intro ?_ ?_))
    ·exact Le.refl _
    ·((conv=>whnf);refine ⟨i+1,⟨hil,fun j hj=>by
      by_cases e:j=i
      ·subst e;exact hb
      ·exact hno.out j (by omega)⟩,⟨qb,qb⟩,⟨qb,qb⟩,?_⟩;(first|omega|(dsimp only;omega)|skip))
   ·have hall:cs.all rightB=true:=List.all_eq_true.2 fun d hd=>by
     obtain ⟨j,hj,rfl⟩:=qaz [] hd
     exact hno j (by omega)
    rw [hin hall] at hc3
    replace hno:=Hid.in hno
    (repeat' ((conv=>whnf);first|refine zO ?_|refine Ob.auto ?_|(refine Ob.intro (by (first|exact ⟨by omega,by omega⟩)) ?_)|(apply zB <;> intro hb <;> (try simp [-zd] at hb) <;> try (exfalso;omega))|refine Ob.intro ?_ ?_))
    ((conv=>whnf);refine qo (fun _=>rfl) 300 hc3 qd ⟨Le.slc (by rw [hlen];omega) (fun k hk=>qxj (enc:=fun d:List Int=>[ints d]) rfl k (by omega)),Le.refl _,trivial⟩ (by rfl) (by kernel_rfl) ?_)
    (repeat' ((conv=>whnf);first|refine zO ?_|refine Ob.auto ?_|(refine Ob.intro (by (first|exact ⟨by omega,by omega⟩)) ?_)|(apply zB <;> intro hb <;> (try simp [-zd] at hb) <;> try (exfalso;omega))|refine Ob.intro ?_ ?_))
    exact Le.refl _
  ·refine zK {} 300 Try.func5 (fun c0 rdb=>?_)
   (repeat' ((conv=>whnf);first|refine zO ?_|refine Ob.auto ?_|(refine Ob.intro (by (first|exact ⟨by omega,by omega⟩)) ?_)|refine zC 300 (ju) ?_|refine zG 300 (fun hg=>ju) ?_|(refine CallY.con (ju) (by rfl) leA ?_)|(refine CallZ.con (fun hg=>ju) qh (by rfl) ?_)|refine zC 300 (hsm) ?_|refine zG 300 (fun hg=>hsm) ?_|(refine CallY.con (hsm) (by rfl) leA ?_)|(refine CallZ.con (fun hg=>hsm) qh (by rfl) ?_)|refine zC 300 (hrm) ?_|refine zG 300 (fun hg=>hrm) ?_|(refine CallY.con (hrm) (by rfl) leA ?_)|(refine CallZ.con (fun hg=>hrm) qh (by rfl) ?_)|(refine qo (fun _=>rfl) 300 (ju) qd (by (repeat' (first|exact trivial|exact Le.refl _|(refine And.intro ?_ ?_))) <;> fail) (by rfl) (by kernel_rfl) ?_)|(refine qp (fun _=>rfl) 300 (fun hg=>ju) (fun hg=>qd) (fun hg=>(by (repeat' (first|exact trivial|exact Le.refl _|exact Le.cnd hg|(refine And.intro ?_ ?_))) <;> fail)) (by rfl) (by kernel_rfl) ?_)|(refine qo (fun _=>rfl) 300 (hsm) qd (by (repeat' (first|exact trivial|exact Le.refl _|(refine And.intro ?_ ?_))) <;> fail) (by rfl) (by kernel_rfl) ?_)|(refine qp (fun _=>rfl) 300 (fun hg=>hsm) (fun hg=>qd) (fun hg=>(by (repeat' (first|exact trivial|exact Le.refl _|exact Le.cnd hg|(refine And.intro ?_ ?_))) <;> fail)) (by rfl) (by kernel_rfl) ?_)|(refine qo (fun _=>rfl) 300 (hrm) qd (by (repeat' (first|exact trivial|exact Le.refl _|(refine And.intro ?_ ?_))) <;> fail) (by rfl) (by kernel_rfl) ?_)|(refine qp (fun _=>rfl) 300 (fun hg=>hrm) (fun hg=>qd) (fun hg=>(by (repeat' (first|exact trivial|exact Le.refl _|exact Le.cnd hg|(refine And.intro ?_ ?_))) <;> fail)) (by rfl) (by kernel_rfl) ?_)|(apply zB <;> intro hb <;> (try simp [-zd] at hb) <;> try (exfalso;omega))|refine Ob.intro ?_ ?_))
   ·exact Le.refl _
   ·exfalso
    exact hs ⟨hb.1.1.1,by omega,hb.2⟩
 ·refine zK {} 300 Try.func5 (fun c0 rdb=>?_)
  (repeat' ((conv=>whnf);first|refine zO ?_|refine Ob.auto ?_|(refine Ob.intro (by (first|exact ⟨by omega,by omega⟩)) ?_)|refine zC 300 (ju) ?_|refine zG 300 (fun hg=>ju) ?_|(refine CallY.con (ju) (by rfl) leA ?_)|(refine CallZ.con (fun hg=>ju) qh (by rfl) ?_)|refine zC 300 (hsm) ?_|refine zG 300 (fun hg=>hsm) ?_|(refine CallY.con (hsm) (by rfl) leA ?_)|(refine CallZ.con (fun hg=>hsm) qh (by rfl) ?_)|(refine qo (fun _=>rfl) 300 (ju) qd (by (repeat' (first|exact trivial|exact Le.refl _|(refine And.intro ?_ ?_))) <;> fail) (by rfl) (by kernel_rfl) ?_)|(refine qp (fun _=>rfl) 300 (fun hg=>ju) (fun hg=>qd) (fun hg=>(by (repeat' (first|exact trivial|exact Le.refl _|exact Le.cnd hg|(refine And.intro ?_ ?_))) <;> fail)) (by rfl) (by kernel_rfl) ?_)|(refine qo (fun _=>rfl) 300 (hsm) qd (by (repeat' (first|exact trivial|exact Le.refl _|(refine And.intro ?_ ?_))) <;> fail) (by rfl) (by kernel_rfl) ?_)|(refine qp (fun _=>rfl) 300 (fun hg=>hsm) (fun hg=>qd) (fun hg=>(by (repeat' (first|exact trivial|exact Le.refl _|exact Le.cnd hg|(refine And.intro ?_ ?_))) <;> fail)) (by rfl) (by kernel_rfl) ?_)|(apply zB <;> intro hb <;> (try simp [-zd] at hb) <;> try (exfalso;omega))|refine Ob.intro ?_ ?_))
  ((conv=>whnf);refine qiw (fun _=>rfl) 300 (.bool false) (by kernel_rfl) qh (fun he=>?_) (fun he=>?_))
  ·exfalso
   simp at he
   omega
  ·(repeat' ((conv=>whnf);first|refine zO ?_|refine Ob.auto ?_|(refine Ob.intro (by (first|exact ⟨by omega,by omega⟩)) ?_)|refine zC 300 (ju) ?_|refine zG 300 (fun hg=>ju) ?_|(refine CallY.con (ju) (by rfl) leA ?_)|(refine CallZ.con (fun hg=>ju) qh (by rfl) ?_)|(refine qo (fun _=>rfl) 300 (ju) qd (by (repeat' (first|exact trivial|exact Le.refl _|(refine And.intro ?_ ?_))) <;> fail) (by rfl) (by kernel_rfl) ?_)|(refine qp (fun _=>rfl) 300 (fun hg=>ju) (fun hg=>qd) (fun hg=>(by (repeat' (first|exact trivial|exact Le.refl _|exact Le.cnd hg|(refine And.intro ?_ ?_))) <;> fail)) (by rfl) (by kernel_rfl) ?_)|(apply zB <;> intro hb <;> (try simp [-zd] at hb) <;> try (exfalso;omega))|refine Ob.intro ?_ ?_))
   exact Le.refl _
end Go.Proofs.Ytkhdldncbmkidaa
