/- The law RupChecks. -/
import Derived.Test.YtkhdldncbmkidaaY340
import Derived.Test.YtkhdldncbmkidaaY32
set_option linter.unusedSimpArgs false
set_option linter.unusedVariables false
namespace Go.Proofs.Ytkhdldncbmkidaa
open List renaming getD_eq_getElem?_getD → zd
open Go Go.Sx Go.RowKit Go.Ru Go.Cl Go.St
set_option maxRecDepth 100000
set_option maxHeartbeats 8000000
theorem jlt {cs:List (List Int)} {p:List Ln} {goal:List Int} (h:qdp cs p goal=0):rightB goal=true:=by
 rw [qjw] at h
 split at h
 ·rename_i hv
  rw [zh] at hv
  exact hv.2
 ·cases h
theorem jlu (cs:List (List Int)) (p:List Ln) (c:List Int):Con Try.prog 4 [qak cs,qhq p,ints c] (.bool true):=by
 have hsm:=jlk cs 30 100000 (by decide)
 by_cases hs:qeg cs 30 100000=true∧p.length≤20∧c.length≤12
 ·obtain ⟨h1,hpl,h2⟩:=hs
  obtain ⟨h4,h5,h6⟩:=jlo (by decide) h1
  rw [h1] at hsm
  have hfl:=jlp h5
  have hc5:∀ d∈cs,d.length≤100000:=fun d hd=>by have:=h5 d hd;omega
  refine zK {owns:=[(56,(23,1)),(9,(23,1)),(77,(23,1))]} 300 Try.func4 (fun c0 rdb=>?_)
  (repeat' ((conv=>whnf);first|refine zO ?_|refine Ob.auto ?_|(refine Ob.intro (by (first|exact ⟨by omega,by omega⟩)) ?_)|refine zC 300 (qcq) ?_|refine zG 300 (fun hg=>qcq) ?_|(refine CallY.con (qcq) (by rfl) leA ?_)|(refine CallZ.con (fun hg=>qcq) qf (by rfl) ?_)|refine zC 300 (hsm) ?_|refine zG 300 (fun hg=>hsm) ?_|(refine CallY.con (hsm) (by rfl) leA ?_)|(refine CallZ.con (fun hg=>hsm) qf (by rfl) ?_)|(refine qg (fun _=>rfl) 300 (qcq) qc (by (repeat' (first|exact trivial|exact Le.refl _|(refine And.intro ?_ ?_))) <;> fail) (by rfl) (by kernel_rfl) ?_)|(refine qi (fun _=>rfl) 300 (fun hg=>qcq) (fun hg=>qc) (fun hg=>(by (repeat' (first|exact trivial|exact Le.refl _|exact Le.cnd hg|(refine And.intro ?_ ?_))) <;> fail)) (by rfl) (by kernel_rfl) ?_)|(refine qg (fun _=>rfl) 300 (hsm) qc (by (repeat' (first|exact trivial|exact Le.refl _|(refine And.intro ?_ ?_))) <;> fail) (by rfl) (by kernel_rfl) ?_)|(refine qi (fun _=>rfl) 300 (fun hg=>hsm) (fun hg=>qc) (fun hg=>(by (repeat' (first|exact trivial|exact Le.refl _|exact Le.cnd hg|(refine And.intro ?_ ?_))) <;> fail)) (by rfl) (by kernel_rfl) ?_)|(apply zB <;> intro hb <;> (try simp [-zd] at hb) <;> try (exfalso;omega))|refine Ob.intro ?_ ?_))
  ((conv=>whnf);refine qw (fun _=>rfl) 300 1 (fun i:Nat=>[(7,iv i)]) (fun _=>[]) (fun i=>i≤p.length∧∀ j,j<i→(p.getD j ⟨false,[]⟩).c.length≤12) (fun i=>p.length - i) (0) (⟨zv _,fun j hj=>absurd hj (zo j)⟩) qa qa (fun _=>rfl) (by kernel_rfl) ?_;(conv=>whnf))
  rintro i ⟨hi,hno⟩
  by_cases hil:i<p.length
  ·replace hno:=Hid.in hno
   (repeat' ((conv=>whnf);first|refine zO ?_|refine Ob.auto ?_|(refine Ob.intro (by (first|exact ⟨by omega,by omega⟩|exact ⟨⟨rfl,rfl⟩,zf _,Int.ofNat_lt.2 hil⟩|exact ⟨⟨rfl,rfl⟩,hil⟩)) ?_)|(apply zB <;> intro hb <;> (try simp [-zd] at hb) <;> try (exfalso;omega))|refine Ob.intro ?_ ?_))
   ·exact Le.refl _
   ·((conv=>whnf);refine ⟨i+1,⟨hil,fun j hj=>by
     by_cases e:j=i
     ·subst e;omega
     ·exact hno.out j (by omega)⟩,⟨qa,qa⟩,⟨qa,qa⟩,?_⟩;(first|omega|(dsimp only;omega)|skip))
  ·have hp12:∀ l∈p,l.c.length≤12:=fun l hl=>by
    obtain ⟨j,hj,rfl⟩:=qal ⟨false,[]⟩ hl
    exact hno j (by omega)
   have hpk:∀ l∈p,l.c.length≤100000:=fun l hl=>by have:=hp12 l hl;omega
   have hc1:=qro cs p c (by omega) hc5 hpk (by omega)
   rw [qrd (by omega) hc5 hpk] at hc1
   have hc2:=jli cs p c (by omega) (by omega) (by omega) (fun l hl=>by have:=hp12 l hl;omega) (by omega)
   have hbr:=jln (cs:=cs) (p:=p) (goal:=c) (v:=8)
   have hrt:=jlt (cs:=cs) (p:=p) (goal:=c)
   have hgc:=qxv (c::cs) (by rw [xh];omega) (fun d hd=>by
    rcases List.mem_cons.1 hd with rfl|hd
    ·omega
    ·have:=h5 d hd;omega)
   generalize qdp cs p c=R at hc1 hc2 hbr hrt
   replace hno:=Hid.in hno
   replace hp12:=Hid.in hp12
   replace hpk:=Hid.in hpk
   by_cases hR:R=0
   ·subst hR
    have hcr:=hrt rfl
    have hbF:=hbr rfl
    (repeat' ((conv=>whnf);first|refine zO ?_|refine Ob.auto ?_|(refine Ob.intro (by (first|exact ⟨by omega,by omega⟩)) ?_)|refine zC 300 (hc1) ?_|refine zG 300 (fun hg=>hc1) ?_|(refine CallY.con (hc1) (by rfl) leA ?_)|(refine CallZ.con (fun hg=>hc1) qf (by rfl) ?_)|refine zC 300 (hc2) ?_|refine zG 300 (fun hg=>hc2) ?_|(refine CallY.con (hc2) (by rfl) leA ?_)|(refine CallZ.con (fun hg=>hc2) qf (by rfl) ?_)|(refine qg (fun _=>rfl) 300 (hc1) qc (by (repeat' (first|exact trivial|exact Le.refl _|(refine And.intro ?_ ?_))) <;> fail) (by rfl) (by kernel_rfl) ?_)|(refine qi (fun _=>rfl) 300 (fun hg=>hc1) (fun hg=>qc) (fun hg=>(by (repeat' (first|exact trivial|exact Le.refl _|exact Le.cnd hg|(refine And.intro ?_ ?_))) <;> fail)) (by rfl) (by kernel_rfl) ?_)|(refine qg (fun _=>rfl) 300 (hc2) qc (by (repeat' (first|exact trivial|exact Le.refl _|(refine And.intro ?_ ?_))) <;> fail) (by rfl) (by kernel_rfl) ?_)|(refine qi (fun _=>rfl) 300 (fun hg=>hc2) (fun hg=>qc) (fun hg=>(by (repeat' (first|exact trivial|exact Le.refl _|exact Le.cnd hg|(refine And.intro ?_ ?_))) <;> fail)) (by rfl) (by kernel_rfl) ?_)|(apply zB <;> intro hb <;> (try simp [-zd] at hb) <;> try (exfalso;omega))|refine Ob.intro ?_ ?_))
    ((conv=>whnf);refine qi (fun _=>rfl) 300 (fun _=>hgc) qc (fun hg=>⟨Le.slc (by rw [xh];omega) (fun k hk=>jlq (enc:=fun d:List Int=>[ints d]) rfl k (by omega)),trivial⟩) (by rfl) (by kernel_rfl) ?_)
    generalize qe (c::cs)=G
    replace hgc:=Hid.in hgc
    replace hc1:=Hid.in hc1
    replace hc2:=Hid.in hc2
    (repeat' ((conv=>whnf);first|refine zO ?_|refine Ob.auto ?_|(refine Ob.intro (by (first|exact ⟨by omega,by omega⟩)) ?_)|(apply zB <;> intro hb <;> (try simp [-zd] at hb) <;> try (exfalso;omega))|refine Ob.intro ?_ ?_))
    ·exact Le.refl _
    ((conv=>whnf);refine qw (fun _=>rfl) 300 3 (fun q:Nat=>[(10,iv q),(9,.own 1 0 0 q)]) (fun q=>[(1,.row [] 23 1 0 q (encL (fun d=>[ints d]) [] (offL (c.take q))))]) (fun q=>q≤c.length) (fun q=>c.length - q) (0) (zv _) qa (by
     repeat' (first|exact trivial|exact rfl|exact Le.refl _|exact fun j hj=>absurd hj (zo _)|refine And.intro ?_ ?_)) (fun _=>rfl) (by kernel_rfl) ?_;(conv=>whnf))
    intro q hq
    by_cases hql:q<c.length
    ·have hx:=(jy _).1 (List.all_eq_true.1 hcr _ (qj (d:=0) hql))
     have hni:inR .i64 (0 - c.getD q 0):=qbh (by omega) (by omega)
     (repeat' ((conv=>whnf);first|refine zO ?_|refine Ob.auto ?_|(refine Ob.intro (by (first|exact ⟨by omega,by omega⟩|exact ⟨⟨rfl,rfl⟩,zf _,Int.ofNat_lt.2 hql⟩|exact ⟨⟨rfl,rfl⟩,hql⟩|exact hni|exact ⟨⟨rfl,rfl⟩,qcm (b:=(tab Try.prog 23).bytes) (by omega) (by decide +kernel)⟩)) ?_)|(apply zB <;> intro hb <;> (try simp [-zd] at hb) <;> try (exfalso;omega))|refine Ob.intro ?_ ?_))
     ((conv=>whnf);refine ⟨q+1,hql,⟨(by (repeat' (first|exact trivial|exact rfl|exact Le.refl _|exact SoLe.refl _|refine And.intro ?_ ?_))),(by
      repeat' (first|exact trivial|exact rfl|exact Le.refl _|exact fun k hk=>jls hql rfl (qjt (by rw [← Int.zero_sub];rfl)) k hk|refine And.intro ?_ ?_))⟩,⟨qa,qa⟩,?_⟩;(first|omega|(dsimp only;omega)|skip))
    ·obtain rfl:q=c.length:=by omega
     rw [xi]
     have hol:=qyz c
     have hbc:=jkw (cs++offL c) 8 (by decide) (by rw [zi,hol];omega) (fun d hd=>by
      rcases List.mem_append.1 hd with hd|hd
      ·have:=hc5 d hd;omega
      ·obtain ⟨x,_,rfl⟩:=List.mem_map.1 hd
       simp)
     rw [hbF] at hbc
     (repeat' ((conv=>whnf);first|refine zO ?_|refine Ob.auto ?_|(refine Ob.intro (by (first|exact ⟨by omega,by omega⟩)) ?_)|(apply zB <;> intro hb <;> (try simp [-zd] at hb) <;> try (exfalso;omega))|refine Ob.intro ?_ ?_))
     ((conv=>whnf);refine qg (fun _=>rfl) 300 hbc qc ⟨Le.slc (by rw [zi,hol];omega) (fun k hk=>?_),Le.refl _,trivial⟩ (by rfl) (by kernel_rfl) ?_)
     ·have:=jlr (enc:=fun d:List Int=>[ints d]) (d:=[]) (a:=cs) (b:=offL c) (f0:=chop (0+1) []) k (by omega)
      rw [hol] at this
      exact this
     (repeat' ((conv=>whnf);first|refine zO ?_|refine Ob.auto ?_|(refine Ob.intro (by (first|exact ⟨by omega,by omega⟩)) ?_)|(apply zB <;> intro hb <;> (try simp [-zd] at hb) <;> try (exfalso;omega))|refine Ob.intro ?_ ?_))
     exact Le.refl _
   ·(repeat' ((conv=>whnf);first|refine zO ?_|refine Ob.auto ?_|(refine Ob.intro (by (first|exact ⟨by omega,by omega⟩)) ?_)|refine zC 300 (hc1) ?_|refine zG 300 (fun hg=>hc1) ?_|(refine CallY.con (hc1) (by rfl) leA ?_)|(refine CallZ.con (fun hg=>hc1) qf (by rfl) ?_)|refine zC 300 (hc2) ?_|refine zG 300 (fun hg=>hc2) ?_|(refine CallY.con (hc2) (by rfl) leA ?_)|(refine CallZ.con (fun hg=>hc2) qf (by rfl) ?_)|(refine qg (fun _=>rfl) 300 (hc1) qc (by (repeat' (first|exact trivial|exact Le.refl _|(refine And.intro ?_ ?_))) <;> fail) (by rfl) (by kernel_rfl) ?_)|(refine qi (fun _=>rfl) 300 (fun hg=>hc1) (fun hg=>qc) (fun hg=>(by (repeat' (first|exact trivial|exact Le.refl _|exact Le.cnd hg|(refine And.intro ?_ ?_))) <;> fail)) (by rfl) (by kernel_rfl) ?_)|(refine qg (fun _=>rfl) 300 (hc2) qc (by (repeat' (first|exact trivial|exact Le.refl _|(refine And.intro ?_ ?_))) <;> fail) (by rfl) (by kernel_rfl) ?_)|(refine qi (fun _=>rfl) 300 (fun hg=>hc2) (fun hg=>qc) (fun hg=>(by (repeat' (first|exact trivial|exact Le.refl _|exact Le.cnd hg|(refine And.intro ?_ ?_))) <;> fail)) (by rfl) (by kernel_rfl) ?_)|(apply zB <;> intro hb <;> (try simp [-zd] at hb) <;> try (exfalso;omega))|refine Ob.intro ?_ ?_))
    ((conv=>whnf);refine qgh (fun _=>rfl) 300 (.int .i64 0) (by kernel_rfl) qf (fun he=>?_) (fun he=>?_))
    ·exfalso
     simp at he
     exact hR he
    ·(repeat' ((conv=>whnf);first|refine zO ?_|refine Ob.auto ?_|(refine Ob.intro (by (first|exact ⟨by omega,by omega⟩)) ?_)|(apply zB <;> intro hb <;> (try simp [-zd] at hb) <;> try (exfalso;omega))|refine Ob.intro ?_ ?_))
     exact Le.refl _
 ·refine zK {} 300 Try.func4 (fun c0 rdb=>?_)
  (repeat' ((conv=>whnf);first|refine zO ?_|refine Ob.auto ?_|(refine Ob.intro (by (first|exact ⟨by omega,by omega⟩)) ?_)|refine zC 300 (qcq) ?_|refine zG 300 (fun hg=>qcq) ?_|(refine CallY.con (qcq) (by rfl) leA ?_)|(refine CallZ.con (fun hg=>qcq) qf (by rfl) ?_)|refine zC 300 (hsm) ?_|refine zG 300 (fun hg=>hsm) ?_|(refine CallY.con (hsm) (by rfl) leA ?_)|(refine CallZ.con (fun hg=>hsm) qf (by rfl) ?_)|(refine qg (fun _=>rfl) 300 (qcq) qc (by (repeat' (first|exact trivial|exact Le.refl _|(refine And.intro ?_ ?_))) <;> fail) (by rfl) (by kernel_rfl) ?_)|(refine qi (fun _=>rfl) 300 (fun hg=>qcq) (fun hg=>qc) (fun hg=>(by (repeat' (first|exact trivial|exact Le.refl _|exact Le.cnd hg|(refine And.intro ?_ ?_))) <;> fail)) (by rfl) (by kernel_rfl) ?_)|(refine qg (fun _=>rfl) 300 (hsm) qc (by (repeat' (first|exact trivial|exact Le.refl _|(refine And.intro ?_ ?_))) <;> fail) (by rfl) (by kernel_rfl) ?_)|(refine qi (fun _=>rfl) 300 (fun hg=>hsm) (fun hg=>qc) (fun hg=>(by (repeat' (first|exact trivial|exact Le.refl _|exact Le.cnd hg|(refine And.intro ?_ ?_))) <;> fail)) (by rfl) (by kernel_rfl) ?_)|(apply zB <;> intro hb <;> (try simp [-zd] at hb) <;> try (exfalso;omega))|refine Ob.intro ?_ ?_))
  ·exact Le.refl _
  ·exfalso
   exact hs ⟨hb.1.1,by omega,by omega⟩
end Go.Proofs.Ytkhdldncbmkidaa
