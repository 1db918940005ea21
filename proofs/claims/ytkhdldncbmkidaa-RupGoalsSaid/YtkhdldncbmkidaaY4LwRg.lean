/- The law RupGoals. -/
import Derived.Test.YtkhdldncbmkidaaY441
import Derived.Test.YtkhdldncbmkidaaY42
set_option linter.unusedSimpArgs false
set_option linter.unusedVariables false
namespace Go.Proofs.Ytkhdldncbmkidaa
open List renaming getD_eq_getElem?_getD → zd
open Go Go.Sx Go.RowKit Go.Ru Go.Cl Go.St
set_option maxRecDepth 100000
set_option maxHeartbeats 8000000
def u8L (l:List Int):AV:=slcL (fun n=>[.int .u8 n]) 0 1 l
def qfv (cs:List (List Int)) (x:Int):List Int:=cs.getD (x.tmod (cs.length:Int)).toNat []
theorem qqw {cs:List (List Int)} (h:cs.length≠0) {x:Int} (hx:0≤x∧x<256):0≤x.tmod (cs.length:Int)∧x.tmod (cs.length:Int)<cs.length:=by
 rw [Int.tmod_eq_emod_of_nonneg hx.1]
 have h1:=Int.emod_nonneg x (show (cs.length:Int)≠0 by omega)
 have h2:=Int.emod_lt_of_pos x (show (0:Int)<cs.length by omega)
 omega
theorem qqx {cs:List (List Int)} (h:cs.length≠0) {x:Int} (hx:0≤x∧x<256):qfv cs x∈cs:=qg (by have:=qqw h hx;omega)
def jq (cs:List (List Int)) (ps:List Int):List Ln:=(ps.map (qfv cs)).map fun c=>⟨false,c⟩
def qam (cs:List (List Int)) (ps:List Int):List Ln:=(ps.map (qfv cs)).map fun c=>⟨true,c⟩
theorem jjl (cs:List (List Int)) (ps:List Int):(jq cs ps).length=ps.length:=by unfold jq;simp
theorem jjm (cs:List (List Int)) (ps:List Int):(qam cs ps).length=ps.length:=by unfold qam;simp
theorem jjn {cs:List (List Int)} {ps:List Int} {i:Nat} (h:i<ps.length):jq cs (ps.take (i+1))=jq cs (ps.take i)++[⟨false,qfv cs (ps.getD i 0)⟩]:=by rw [qxm h];unfold jq;simp
theorem jjo {cs:List (List Int)} {ps:List Int} {i:Nat} (h:i<ps.length):qam cs (ps.take (i+1))=qam cs (ps.take i)++[⟨true,qfv cs (ps.getD i 0)⟩]:=by rw [qxm h];unfold qam;simp
theorem jjp (cs:List (List Int)) (ps:List Int) (hps:∀ x∈ps,0≤x∧x<256):Con Try.prog 6 [qbh cs,u8L ps] (.bool true):=by
 have hsm:=jjh cs 30 100000 (by decide)
 by_cases hs:qdv cs 30 100000=true∧cs.length≠0∧ps.length≤12
 ·obtain ⟨h1,hn0,h2⟩:=hs
  obtain ⟨h4,h5,h6⟩:=jjk (by decide) h1
  rw [h1] at hsm
  have hc5:∀ d∈cs,d.length≤100000:=fun d hd=>by have:=h5 d hd;omega
  refine zK {owns:=[(6,(31,2))]} 300 Try.func6 (fun c0 rdb=>?_)
  (repeat' ((conv=>whnf);first|refine zO ?_|refine Ob.auto ?_|(refine Ob.intro (by (first|exact ⟨by omega,by omega⟩)) ?_)|refine zC 300 (qcf) ?_|refine zG 300 (fun hg=>qcf) ?_|(refine CallY.con (qcf) (by rfl) leA ?_)|(refine CallZ.con (fun hg=>qcf) qp (by rfl) ?_)|refine zC 300 (hsm) ?_|refine zG 300 (fun hg=>hsm) ?_|(refine CallY.con (hsm) (by rfl) leA ?_)|(refine CallZ.con (fun hg=>hsm) qp (by rfl) ?_)|(refine qv (fun _=>rfl) 300 (qcf) qd (by (repeat' (first|exact trivial|exact Le.refl _|(refine And.intro ?_ ?_))) <;> fail) (by rfl) (by kernel_rfl) ?_)|(refine qw (fun _=>rfl) 300 (fun hg=>qcf) (fun hg=>qd) (fun hg=>(by (repeat' (first|exact trivial|exact Le.refl _|exact Le.cnd hg|(refine And.intro ?_ ?_))) <;> fail)) (by rfl) (by kernel_rfl) ?_)|(refine qv (fun _=>rfl) 300 (hsm) qd (by (repeat' (first|exact trivial|exact Le.refl _|(refine And.intro ?_ ?_))) <;> fail) (by rfl) (by kernel_rfl) ?_)|(refine qw (fun _=>rfl) 300 (fun hg=>hsm) (fun hg=>qd) (fun hg=>(by (repeat' (first|exact trivial|exact Le.refl _|exact Le.cnd hg|(refine And.intro ?_ ?_))) <;> fail)) (by rfl) (by kernel_rfl) ?_)|(apply zB <;> intro hb <;> (try simp [-zd] at hb) <;> try (exfalso;omega))|refine Ob.intro ?_ ?_))
  ·exact Le.refl _
  have hb0:=hb
  clear hb
  ((conv=>whnf);refine jk (fun _=>rfl) 300 1 (fun i:Nat=>[(5,iv i)]) (fun _=>[]) (fun i=>i≤cs.length∧∀ j,j<i→rightB (cs.getD j [])=true) (fun i=>cs.length - i) (0) (⟨xa _,fun j hj=>absurd hj (zu j)⟩) qa qa (fun _=>rfl) (by kernel_rfl) ?_;(conv=>whnf))
  rintro i ⟨hi,hno⟩
  by_cases hil:i<cs.length
  ·have hci:=jhj (cs.getD i []) (by have:=h5 _ (qg (d:=[]) hil);omega)
   have hck:=qms cs [] [] (by simpa using h4) hc5 (by simp) (by decide)
   replace hno:=Hid.in hno
   (repeat' ((conv=>whnf);first|refine zO ?_|refine Ob.auto ?_|(refine Ob.intro (by (first|exact ⟨by omega,by omega⟩|exact ⟨⟨rfl,rfl⟩,zg _,Int.ofNat_lt.2 hil⟩|exact ⟨⟨rfl,rfl⟩,hil⟩)) ?_)|(apply zB <;> intro hb <;> (try simp [-zd] at hb) <;> try (exfalso;omega))|refine Ob.intro ?_ ?_))
   ((conv=>whnf);refine qbi (fun _=>rfl) 300 hci (by rfl) leA (by kernel_rfl) ?_)
   (repeat' ((conv=>whnf);first|refine zO ?_|refine Ob.auto ?_|(refine Ob.intro (by (first|exact ⟨by omega,by omega⟩|exact ⟨⟨rfl,rfl⟩,zg _,Int.ofNat_lt.2 hil⟩|exact ⟨⟨rfl,rfl⟩,hil⟩)) ?_)|(apply zB <;> intro hb <;> (try simp [-zd] at hb) <;> try (exfalso;omega))|refine Ob.intro ?_ ?_))
   ·have hk:qcd cs [] []=-1:=by
     unfold qcd
     rw [ze (fun h=>by
      have:=List.all_eq_true.1 h.2 _ (qg (d:=[]) hil)
      rw [hb] at this;cases this)]
    rw [hk] at hck
    ((conv=>whnf);refine qbi (fun _=>rfl) 300 hck (by rfl) ⟨Le.refl _,Le.nils _ _,Le.nils _ _,trivial⟩ (by kernel_rfl) ?_)
    (repeat' ((conv=>whnf);first|refine zO ?_|refine Ob.auto ?_|(refine Ob.intro (by (first|exact ⟨by omega,by omega⟩)) ?_)|(apply zB <;> intro hb <;> (try simp [-zd] at hb) <;> try (exfalso;omega))|refine Ob.intro ?_ ?_))
    exact Le.refl _
   ·((conv=>whnf);refine ⟨i+1,⟨hil,fun j hj=>by
     by_cases e:j=i
     ·subst e;exact hb
     ·exact hno.out j (by omega)⟩,⟨qa,qa⟩,⟨qa,qa⟩,?_⟩;(first|omega|(dsimp only;omega)|skip))
  ·have hall:cs.all rightB=true:=List.all_eq_true.2 fun d hd=>by
    obtain ⟨j,hj,rfl⟩:=qbb [] hd
    exact hno j (by omega)
   replace hno:=Hid.in hno
   (repeat' ((conv=>whnf);first|refine zO ?_|refine Ob.auto ?_|(refine Ob.intro (by (first|exact ⟨by omega,by omega⟩)) ?_)|(apply zB <;> intro hb <;> (try simp [-zd] at hb) <;> try (exfalso;omega))|refine Ob.intro ?_ ?_))
   ((conv=>whnf);refine jk (fun _=>rfl) 300 3 (fun q:Nat=>[(7,iv q),(6,.own 0 0 0 (jq cs (ps.take q)).length)]) (fun q=>[(0,.row [] 31 2 0 (jq cs (ps.take q)).length (encL qje ⟨false,[]⟩ (jq cs (ps.take q))))]) (fun q=>q≤ps.length) (fun q=>ps.length - q) (0) (xa _) qa (by
    repeat' (first|exact trivial|exact rfl|exact Le.refl _|exact fun j hj=>absurd hj (zu _)|refine And.intro ?_ ?_)) (fun _=>rfl) (by kernel_rfl) ?_;(conv=>whnf))
   intro q hq
   have hal:=jjl cs (ps.take q)
   rw [zr,Nat.min_eq_left hq] at hal
   by_cases hql:q<ps.length
   ·have hpk:=qqw hn0 (hps _ (qg (d:=0) hql))
    have hpi:inR .i64 ((ps.getD q 0).tmod (cs.length:Int)):=qbk (by omega) (by omega)
    have hpn:((ps.getD q 0).tmod (cs.length:Int)).toNat<cs.length:=by omega
    have hc8:inR .i64 (ps.getD q 0):=by have:=hps _ (qg (d:=0) hql);exact qbk (by omega) (by omega)
    have hsn:=jjn (cs:=cs) hql
    have hs1:(jq cs (ps.take (q+1))).length=(jq cs (ps.take q)).length+1:=by rw [hsn,zj];rfl
    replace hsn:=Hid.in hsn
    replace hs1:=Hid.in hs1
    (repeat' ((conv=>whnf);first|refine zO ?_|refine Ob.auto ?_|(refine Ob.intro (by (first|exact ⟨by omega,by omega⟩|exact ⟨⟨rfl,rfl⟩,zg _,Int.ofNat_lt.2 hql⟩|exact ⟨⟨rfl,rfl⟩,hql⟩|exact ⟨by omega,hpi⟩|exact hc8|exact hpk|exact hpn|exact ⟨⟨rfl,rfl⟩,qdr (b:=(tab Try.prog 31).bytes) (by omega) (by decide +kernel)⟩)) ?_)|(apply zB <;> intro hb <;> (try simp [-zd] at hb) <;> try (exfalso;omega))|refine Ob.intro ?_ ?_))
    ((conv=>whnf);refine ⟨q+1,hql,⟨(by
     rw [hs1.out]
     (repeat' (first|exact trivial|exact rfl|exact Le.refl _|exact SoLe.refl _|refine And.intro ?_ ?_))),(by
     rw [hs1.out,hsn.out]
     repeat' (first|exact trivial|exact rfl|exact Le.refl _|exact app1 (enc:=qje) rfl|refine And.intro ?_ ?_))⟩,⟨qa,qa⟩,?_⟩;(first|omega|(dsimp only;omega)|skip))
   ·obtain rfl:q=ps.length:=by omega
    rw [xi]
    rw [xi] at hal
    (repeat' ((conv=>whnf);first|refine zO ?_|refine Ob.auto ?_|(refine Ob.intro (by (first|exact ⟨by omega,by omega⟩)) ?_)|(apply zB <;> intro hb <;> (try simp [-zd] at hb) <;> try (exfalso;omega))|refine Ob.intro ?_ ?_))
    ((conv=>whnf);refine jk (fun _=>rfl) 300 5 (fun q:Nat=>[(8,iv q),(6,.own 0 0 0 (jq cs ps++qam cs (ps.take q)).length)]) (fun q=>[(0,.row [] 31 2 0 (jq cs ps++qam cs (ps.take q)).length (encL qje ⟨false,[]⟩ (jq cs ps++qam cs (ps.take q))))]) (fun q=>q≤ps.length) (fun q=>ps.length - q) (0) (xa _) (by
     rw [show jq cs ps++qam cs (ps.take 0)=jq cs ps from zaq _]
     (repeat' (first|exact trivial|exact rfl|exact Le.refl _|exact SoLe.refl _|refine And.intro ?_ ?_))) (by
     rw [show jq cs ps++qam cs (ps.take 0)=jq cs ps from zaq _]
     repeat' (first|exact trivial|exact rfl|exact Le.refl _|exact fun _ _=>LeL.refl _|refine And.intro ?_ ?_)) (fun _=>rfl) (by kernel_rfl) ?_;(conv=>whnf))
    intro q hq
    have hdl:(jq cs ps++qam cs (ps.take q)).length=ps.length+q:=by
     rw [zj,hal,jjm,zr,Nat.min_eq_left hq]
    by_cases hql:q<ps.length
    ·have hpk:=qqw hn0 (hps _ (qg (d:=0) hql))
     have hpi:inR .i64 ((ps.getD q 0).tmod (cs.length:Int)):=qbk (by omega) (by omega)
     have hpn:((ps.getD q 0).tmod (cs.length:Int)).toNat<cs.length:=by omega
     have hc8:inR .i64 (ps.getD q 0):=by have:=hps _ (qg (d:=0) hql);exact qbk (by omega) (by omega)
     have hsn:jq cs ps++qam cs (ps.take (q+1))=(jq cs ps++qam cs (ps.take q))++[⟨true,qfv cs (ps.getD q 0)⟩]:=by rw [jjo hql,xd]
     have hs1:(jq cs ps++qam cs (ps.take (q+1))).length=(jq cs ps++qam cs (ps.take q)).length+1:=by rw [hsn];exact zj
     generalize jq cs ps++qam cs (ps.take q)=D at hsn hs1 hdl ⊢
     replace hsn:=Hid.in hsn
     replace hs1:=Hid.in hs1
     (repeat' ((conv=>whnf);first|refine zO ?_|refine Ob.auto ?_|(refine Ob.intro (by (first|exact ⟨by omega,by omega⟩|exact ⟨⟨rfl,rfl⟩,zg _,Int.ofNat_lt.2 hql⟩|exact ⟨⟨rfl,rfl⟩,hql⟩|exact ⟨by omega,hpi⟩|exact hc8|exact hpk|exact hpn|exact ⟨⟨rfl,rfl⟩,qdr (b:=(tab Try.prog 31).bytes) (by omega) (by decide +kernel)⟩)) ?_)|(apply zB <;> intro hb <;> (try simp [-zd] at hb) <;> try (exfalso;omega))|refine Ob.intro ?_ ?_))
     ((conv=>whnf);refine ⟨q+1,hql,⟨(by
      rw [hs1.out]
      (repeat' (first|exact trivial|exact rfl|exact Le.refl _|exact SoLe.refl _|refine And.intro ?_ ?_))),(by
      rw [hs1.out,hsn.out]
      repeat' (first|exact trivial|exact rfl|exact Le.refl _|exact app1 (enc:=qje) rfl|refine And.intro ?_ ?_))⟩,⟨qa,qa⟩,?_⟩;(first|omega|(dsimp only;omega)|skip))
    ·obtain rfl:q=ps.length:=by omega
     rw [xi] at hdl ⊢
     have hgo:∀ g∈cs,qgz cs (jq cs ps++qam cs ps) g=0:=fun g hg=>jjj hall (q:=ps.map (qfv cs)) (fun c hc=>by
      obtain ⟨x,hx,rfl⟩:=List.mem_map.1 hc
      exact qqx hn0 (hps x hx)) hg
     have hpr:∀ l∈jq cs ps++qam cs ps,l.c.length≤100000:=fun l hl=>by
      rcases List.mem_append.1 hl with hl|hl
      ·obtain ⟨c,hc,rfl⟩:=List.mem_map.1 hl
       obtain ⟨x,hx,rfl⟩:=List.mem_map.1 hc
       exact hc5 _ (qqx hn0 (hps x hx))
      ·obtain ⟨c,hc,rfl⟩:=List.mem_map.1 hl
       obtain ⟨x,hx,rfl⟩:=List.mem_map.1 hc
       exact hc5 _ (qqx hn0 (hps x hx))
     generalize jq cs ps++qam cs ps=D at hgo hpr hdl ⊢
     replace hal:=Hid.in hal
     replace hgo:=Hid.in hgo
     replace hpr:=Hid.in hpr
     (repeat' ((conv=>whnf);first|refine zO ?_|refine Ob.auto ?_|(refine Ob.intro (by (first|exact ⟨by omega,by omega⟩)) ?_)|(apply zB <;> intro hb <;> (try simp [-zd] at hb) <;> try (exfalso;omega))|refine Ob.intro ?_ ?_))
     ((conv=>whnf);refine jk (fun _=>rfl) 300 7 (fun i:Nat=>[(9,iv i)]) (fun _=>[]) (fun i=>i≤cs.length) (fun i=>cs.length - i) (0) (xa _) qa qa (fun _=>rfl) (by kernel_rfl) ?_;(conv=>whnf))
     intro i hi
     by_cases hil:i<cs.length
     ·have hcc:=qms cs D (cs.getD i []) (by omega) hc5 hpr.out (hc5 _ (qg hil))
      rw [qqm (by omega) hc5 hpr.out,hgo.out _ (qg hil)] at hcc
      (repeat' ((conv=>whnf);first|refine zO ?_|refine Ob.auto ?_|(refine Ob.intro (by (first|exact ⟨by omega,by omega⟩|exact ⟨⟨rfl,rfl⟩,zg _,Int.ofNat_lt.2 hil⟩|exact ⟨⟨rfl,rfl⟩,hil⟩)) ?_)|(apply zB <;> intro hb <;> (try simp [-zd] at hb) <;> try (exfalso;omega))|refine Ob.intro ?_ ?_))
      ((conv=>whnf);refine qv (fun _=>rfl) 300 hcc qd ⟨Le.refl _,Le.refl _,Le.refl _,trivial⟩ (by rfl) (by kernel_rfl) ?_)
      (repeat' ((conv=>whnf);first|refine zO ?_|refine Ob.auto ?_|(refine Ob.intro (by (first|exact ⟨by omega,by omega⟩|exact ⟨⟨rfl,rfl⟩,zg _,Int.ofNat_lt.2 hil⟩|exact ⟨⟨rfl,rfl⟩,hil⟩)) ?_)|(apply zB <;> intro hb <;> (try simp [-zd] at hb) <;> try (exfalso;omega))|refine Ob.intro ?_ ?_))
      ((conv=>whnf);refine ⟨i+1,hil,⟨qa,qa⟩,⟨qa,qa⟩,?_⟩;(first|omega|(dsimp only;omega)|skip))
     ·(repeat' ((conv=>whnf);first|refine zO ?_|refine Ob.auto ?_|(refine Ob.intro (by (first|exact ⟨by omega,by omega⟩)) ?_)|(apply zB <;> intro hb <;> (try simp [-zd] at hb) <;> try (exfalso;omega))|refine Ob.intro ?_ ?_))
      exact Le.refl _
 ·refine zK {} 300 Try.func6 (fun c0 rdb=>?_)
  (repeat' ((conv=>whnf);first|refine zO ?_|refine Ob.auto ?_|(refine Ob.intro (by (first|exact ⟨by omega,by omega⟩)) ?_)|refine zC 300 (qcf) ?_|refine zG 300 (fun hg=>qcf) ?_|(refine CallY.con (qcf) (by rfl) leA ?_)|(refine CallZ.con (fun hg=>qcf) qp (by rfl) ?_)|refine zC 300 (hsm) ?_|refine zG 300 (fun hg=>hsm) ?_|(refine CallY.con (hsm) (by rfl) leA ?_)|(refine CallZ.con (fun hg=>hsm) qp (by rfl) ?_)|(refine qv (fun _=>rfl) 300 (qcf) qd (by (repeat' (first|exact trivial|exact Le.refl _|(refine And.intro ?_ ?_))) <;> fail) (by rfl) (by kernel_rfl) ?_)|(refine qw (fun _=>rfl) 300 (fun hg=>qcf) (fun hg=>qd) (fun hg=>(by (repeat' (first|exact trivial|exact Le.refl _|exact Le.cnd hg|(refine And.intro ?_ ?_))) <;> fail)) (by rfl) (by kernel_rfl) ?_)|(refine qv (fun _=>rfl) 300 (hsm) qd (by (repeat' (first|exact trivial|exact Le.refl _|(refine And.intro ?_ ?_))) <;> fail) (by rfl) (by kernel_rfl) ?_)|(refine qw (fun _=>rfl) 300 (fun hg=>hsm) (fun hg=>qd) (fun hg=>(by (repeat' (first|exact trivial|exact Le.refl _|exact Le.cnd hg|(refine And.intro ?_ ?_))) <;> fail)) (by rfl) (by kernel_rfl) ?_)|(apply zB <;> intro hb <;> (try simp [-zd] at hb) <;> try (exfalso;omega))|refine Ob.intro ?_ ?_))
  ·exact Le.refl _
  ·exfalso
   exact hs ⟨hb.1.1,fun h=>hb.1.2 (zz h),by omega⟩
end Go.Proofs.Ytkhdldncbmkidaa
