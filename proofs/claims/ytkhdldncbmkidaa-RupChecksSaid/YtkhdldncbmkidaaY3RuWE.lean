/- Contracts: the checker's follows. -/
import Derived.Test.YtkhdldncbmkidaaY3RuWC
import Derived.Test.YtkhdldncbmkidaaY316
import Derived.Test.YtkhdldncbmkidaaY32
set_option linter.unusedSimpArgs false
set_option linter.unusedVariables false
namespace Go.Proofs.Ytkhdldncbmkidaa
open List renaming getD_eq_getElem?_getD → zd
open Go Go.Sx Go.RowKit Go.Ru Go.Cl
set_option maxRecDepth 100000
set_option maxHeartbeats 8000000
theorem qni (x:Nat):∀ (l:List Nat) (k:K) (f:Bool),jd (l++[x]) k f=if 0<vl (jd l k f).1 x then ((jd l k f).1,true) else if vl (jd l k f).1 x=0 then ((jd l k f).1.set (ng x) (-1),(jd l k f).2) else jd l k f
 | [],k,f=>rfl
 | y::l,k,f=>by
  rw [List.cons_append]
  unfold jd
  split
  ·exact qni x l k true
  ·split
   ·exact qni x l _ f
   ·exact qni x l k f
theorem jjn {l:List Nat} {i:Nat} (h:i<l.length):l.take (i+1)=l.take i++[l.getD i 0]:=by
 rw [zal,zb h,zd,zb h];rfl
theorem qrj (k:K) (hI:Ru.Inv k) (c:List Int) (hr:rightB c=true) (hl:c.length≤100000) (idle:Bool) :
  Trip Try.prog 22 [.ptr 0 0,ints c,.bool idle] (stK k) (.bool (k.ask c idle).2) (idx 0 (stK (k.ask c idle).1)) 11:=by
 have hsz:=Sz.of hI.s.p.v hI.s.p.c
 have hct:=qxy k hsz c hr hl
 cases idle with
 | true=>
  refine zL {} 300 Try.func22 (fun c0 rdb mpb=>?_)
  (repeat' ((conv=>whnf);first|refine zO ?_|refine Ob.auto ?_|(refine Ob.intro (by (first|exact ⟨by omega,by omega⟩)) ?_)|(apply zB <;> intro hb <;> (try simp [-zd] at hb) <;> try (exfalso;omega))|refine Ob.intro ?_ ?_))
  refine ⟨Le.refl _,?_⟩
  (unfold stK boxK;repeat' (first|exact trivial|exact rfl|exact Le.refl _|exact SoLe.refl _|exact fun _ _=>LeL.refl _|exact fun _ _ _ _=>LeL.refl _|refine And.intro ?_ ?_))
 | false=>
  have hask:k.ask c false=(k.grow (qe [c]).toNat).follows (codesN c):=rfl
  have hgr:=qjq [c]
  have hI1:=qhk hI (v:=(qe [c]).toNat) (by omega)
  have hrf:=jio _ hI1
  obtain ⟨hKr,hIr,hsr⟩:=qww hI1
  have hcx:∀ x∈codesN c,x<(k.grow (qe [c]).toNat).refresh.val.length:=fun x hx=>by
   obtain ⟨l,hl,rfl⟩:=List.mem_map.1 hx
   have h1:=qqw hr l hl
   have h2:=qqp (l:=l) (v:=(qe [c]).toNat) (by omega)
   have h3:=(qmu hI (qe [c]).toNat).1
   rw [hKr.vl]
   omega
  have hcl:c.length=(codesN c).length:=by unfold codesN;rw [xq]
  rw [hask]
  refine zL {} 300 Try.func22 (fun c0 rdb mpb=>?_)
  (repeat' ((conv=>whnf);first|refine zO ?_|refine Ob.auto ?_|(refine Ob.intro (by (first|exact ⟨by omega,by omega⟩)) ?_)|(apply zB <;> intro hb <;> (try simp [-zd] at hb) <;> try (exfalso;omega))|refine Ob.intro ?_ ?_))
  ((conv=>whnf);refine jm (fun _=>rfl) 300 [0,1,2,3,4,5,6,7,8,9,10] hct (by kernel_rfl) leA (by exact qat k) (by exact qn k) (by refine qiy ?_;repeat' (first|exact trivial|exact fun _ _=>rfl|refine And.intro ?_ ?_)) (by kernel_rfl) ?_)
  generalize hk1:k.grow (qe [c]).toNat=k1 at hct hI1 hrf hKr hIr hsr hcx ⊢
  replace hct:=Hid.in hct
  (repeat' ((conv=>whnf);first|refine zO ?_|refine Ob.auto ?_|(refine Ob.intro (by (first|exact ⟨by omega,by omega⟩)) ?_)|(apply zB <;> intro hb <;> (try simp [-zd] at hb) <;> try (exfalso;omega))|refine Ob.intro ?_ ?_))
  ((conv=>whnf);refine jm (fun _=>rfl) 300 [0,1,2,3,4,5,6,7,8,9,10] hrf (by kernel_rfl) leA (by exact qat k1) (by exact qn k1) (by exact qn _) (by kernel_rfl) ?_)
  have hfol:k1.follows (codesN c)=if 0<k1.refresh.empty∨k1.refresh.broken=true then (k1.refresh,true) else k1.refresh.asks (codesN c):=rfl
  rw [hfol]
  generalize k1.refresh=kr at hrf hKr hIr hsr hcx ⊢
  replace hrf:=Hid.in hrf
  replace hKr:=Hid.in hKr
  replace hfol:=Hid.in hfol
  (repeat' ((conv=>whnf);first|refine zO ?_|refine Ob.auto ?_|(refine Ob.intro (by (first|exact ⟨by omega,by omega⟩)) ?_)|(apply zB <;> intro hb <;> (try simp [-zd] at hb) <;> try (exfalso;omega))|refine Ob.intro ?_ ?_))
  ·rw [za hb]
   refine ⟨Le.refl _,?_⟩
   (unfold stK boxK;repeat' (first|exact trivial|exact rfl|exact Le.refl _|exact SoLe.refl _|exact fun _ _=>LeL.refl _|exact fun _ _ _ _=>LeL.refl _|refine And.intro ?_ ?_))
  ·have hB:=hIr.b hsr hb.2
   have hJ:J0 kr.trail.length ((codesN c).map ng) kr:=⟨hB.j.p,hB.j.hb,hB.j.w2,hB.j.q2,fun p hp=>by rw [za hp];have:=hB.j.r p hp;rw [za hp] at this;exact this,hB.j.nt⟩
   have hA:∀ i,AsmJ kr.trail.length ((codesN c).map ng) ((codesN c).take i) kr false (jd ((codesN c).take i) kr false):=fun i=>qjk _ kr false hJ (fun x hx=>⟨hcx x (zab hx),zz (zab hx)⟩)
   rw [ze (fun h=>h.elim (fun h=>by omega) (fun h=>by rw [hb.2] at h;cases h))]
   have hBh:=hB.h
   replace hB:=Hid.in hB
   replace hJ:=Hid.in hJ
   ((conv=>whnf);refine qw (fun _=>rfl) 300 1 (fun i:Nat=>[(36,iv i),(9,.bool (jd ((codesN c).take i) kr false).2)]) (fun i=>idx 0 (stK (jd ((codesN c).take i) kr false).1)) (fun i=>i≤c.length) (fun i=>c.length - i) (0) (zv _) qa (by
    show SubSt _ (idx 0 (stK kr))
    (unfold stK boxK;repeat' (first|exact trivial|exact rfl|exact Le.refl _|exact SoLe.refl _|exact fun _ _=>LeL.refl _|exact fun _ _ _ _=>LeL.refl _|refine And.intro ?_ ?_))) (fun _=>rfl) (by kernel_rfl) ?_;(conv=>whnf))
   intro i hi
   have hAi:=hA i
   have hsn:=qni ((codesN c).getD i 0) ((codesN c).take i) kr false
   obtain ⟨kA,hkA⟩:∃ kA,kA=(jd ((codesN c).take i) kr false).1:=⟨_,rfl⟩
   obtain ⟨fA,hfA⟩:∃ fA,fA=(jd ((codesN c).take i) kr false).2:=⟨_,rfl⟩
   have hpA:jd ((codesN c).take i) kr false=(kA,fA):=by rw [hkA,hfA]
   rw [hpA] at hAi hsn
   rw [← hkA,← hfA]
   have hzA:Sz kA:=Sz.of hAi.j.p.v hAi.j.p.c
   by_cases hil:i<c.length
   ·have hx:(codesN c).getD i 0<kA.val.length:=by
     have:=hAi.s.vl
     simp only at this
     rw [this];exact hcx _ (qj (by omega))
    have hnx:=hAi.j.p.v.ngl hx
    rw [← jjn (by omega)] at hsn
    have hv9:=hzA.v
    have hxo:=qmb ((codesN c).getD i 0) (by omega)
    replace hpA:=Hid.in hpA
    replace hkA:=Hid.in hkA
    replace hfA:=Hid.in hfA
    replace hAi:=Hid.in hAi
    replace hsn:=Hid.in hsn
    replace hA:=Hid.in hA
    replace hcx:=Hid.in hcx
    (repeat' ((conv=>whnf);first|refine zO ?_|refine Ob.auto ?_|(refine Ob.intro (by (first|first|exact ⟨by omega,by omega⟩|(simp only [zg];omega)|exact ⟨⟨rfl,rfl⟩,zf _,Int.ofNat_lt.2 hx⟩|exact ⟨⟨rfl,rfl⟩,hx⟩|exact ⟨⟨rfl,rfl⟩,zf _,Int.ofNat_lt.2 hil⟩|exact ⟨⟨rfl,rfl⟩,hil⟩)) ?_)|(apply zB <;> intro hb <;> (try simp [-zd] at hb) <;> try (exfalso;omega))|refine Ob.intro ?_ ?_))
    ·have hq:jd ((codesN c).take (i+1)) kr false=(kA,true):=hsn.out.trans (za hb)
     ((conv=>whnf);refine ⟨i+1,hil,⟨(by
      rw [hq]
      (repeat' (first|exact trivial|exact rfl|exact Le.refl _|exact SoLe.refl _|refine And.intro ?_ ?_))),(by
      rw [hq]
      (unfold stK boxK;repeat' (first|exact trivial|exact rfl|exact Le.refl _|exact SoLe.refl _|exact fun _ _=>LeL.refl _|exact fun _ _ _ _=>LeL.refl _|refine And.intro ?_ ?_)))⟩,⟨qa,qa⟩,?_⟩;(first|omega|(dsimp only;omega)|skip))
    ·have hq:jd ((codesN c).take (i+1)) kr false=(kA.set (ng ((codesN c).getD i 0)) (-1),fA):=hsn.out.trans ((ze (show ¬ 0<kA.val.getD ((codesN c).getD i 0) 0 by omega)).trans (za hb))
     ((conv=>whnf);refine jm (fun _=>rfl) 300 [0,1,2,3,4,5,6,7,8,9,10] (qjc kA hzA (ng ((codesN c).getD i 0)) hnx (-1)) (by kernel_rfl) ⟨Le.refl _,Le.of_eq (congrArg (AV.int _) hxo),Le.refl _,trivial⟩ (by exact qat kA) (by exact qn kA) (by exact qn _) (by kernel_rfl) ?_)
     (repeat' ((conv=>whnf);first|refine zO ?_|refine Ob.auto ?_|(refine Ob.intro (by (first|first|exact ⟨by omega,by omega⟩|(simp only [zg];omega))) ?_)|(apply zB <;> intro hb <;> (try simp [-zd] at hb) <;> try (exfalso;omega))|refine Ob.intro ?_ ?_))
     ((conv=>whnf);refine ⟨i+1,hil,⟨(by
      rw [hq]
      (repeat' (first|exact trivial|exact rfl|exact Le.refl _|exact SoLe.refl _|refine And.intro ?_ ?_))),(by
      rw [hq]
      (unfold stK boxK;repeat' (first|exact trivial|exact rfl|exact Le.refl _|exact SoLe.refl _|exact fun _ _=>LeL.refl _|exact fun _ _ _ _=>LeL.refl _|refine And.intro ?_ ?_)))⟩,⟨qa,qa⟩,?_⟩;(first|omega|(dsimp only;omega)|skip))
    ·have hq:jd ((codesN c).take (i+1)) kr false=(kA,fA):=hsn.out.trans ((ze (show ¬ 0<kA.val.getD ((codesN c).getD i 0) 0 by omega)).trans (ze hb))
     ((conv=>whnf);refine ⟨i+1,hil,⟨(by
      rw [hq]
      (repeat' (first|exact trivial|exact rfl|exact Le.refl _|exact SoLe.refl _|refine And.intro ?_ ?_))),(by
      rw [hq]
      (unfold stK boxK;repeat' (first|exact trivial|exact rfl|exact Le.refl _|exact SoLe.refl _|exact fun _ _=>LeL.refl _|exact fun _ _ _ _=>LeL.refl _|refine And.intro ?_ ?_)))⟩,⟨qa,qa⟩,?_⟩;(first|omega|(dsimp only;omega)|skip))
   ·obtain rfl:i=c.length:=by omega
    rw [show (codesN c).take c.length=codesN c by rw [hcl,xi]] at hpA hAi
    have hasks:kr.asks (codesN c)=if fA then (kA.undo kr.trail.length,true) else (kA.prop.1.undo kr.trail.length,!kA.prop.2):=by
     unfold K.asks
     rw [hpA]
    rw [hasks]
    have hTr:∀ x∈kA.trail,x<kA.val.length:=fun x hx=>((hAi.j.p.v.tv x).1 hx).1
    have htl:kr.trail.length≤kA.trail.length:=hAi.j.hb
    have hDa:Done kA kA.head:=by
     have:=hAi.hd
     simp only at this
     rw [this,hBh]
     intro n ha hl w o hp ht
     exact zab (hAi.j.q2 n ha hl w o hp ht)
    have hpt:=qmp kA hAi.j hDa
    have hP:=qmo hAi.j hDa
    obtain ⟨g1,g2,g3,g4⟩:=hP
    have hzP:Sz kA.prop.1:=Sz.of g2.p.v g2.p.c
    have hTp:∀ x∈kA.prop.1.trail,x<kA.prop.1.val.length:=fun x hx=>((g2.p.v.tv x).1 hx).1
    have htp:kr.trail.length≤kA.prop.1.trail.length:=by
     obtain ⟨t,ht⟩:=g1.tr
     rw [ht,zi]
     exact zr htl (Nat.le_add_right _ _)
    have hu1:=qpy kA hzA hTr kr.trail.length htl
    have hu2:=qpy kA.prop.1 hzP hTp kr.trail.length htp
    replace g1:=Hid.in g1
    replace g2:=Hid.in g2
    replace g3:=Hid.in g3
    replace g4:=Hid.in g4
    replace hpA:=Hid.in hpA
    replace hkA:=Hid.in hkA
    replace hfA:=Hid.in hfA
    replace hAi:=Hid.in hAi
    replace hsn:=Hid.in hsn
    replace hA:=Hid.in hA
    replace hcx:=Hid.in hcx
    replace hDa:=Hid.in hDa
    cases fA with
    | true=>
     rw [za rfl]
     (repeat' ((conv=>whnf);first|refine zO ?_|refine Ob.auto ?_|(refine Ob.intro (by (first|first|exact ⟨by omega,by omega⟩|(simp only [zg];omega))) ?_)|(apply zB <;> intro hb <;> (try simp [-zd] at hb) <;> try (exfalso;omega))|refine Ob.intro ?_ ?_))
     ((conv=>whnf);refine qgh (fun _=>rfl) 300 (.bool false) (by kernel_rfl) qf (fun he=>absurd he (by decide)) (fun he=>?_))
     (repeat' ((conv=>whnf);first|refine zO ?_|refine Ob.auto ?_|(refine Ob.intro (by (first|first|exact ⟨by omega,by omega⟩|(simp only [zg];omega))) ?_)|(apply zB <;> intro hb <;> (try simp [-zd] at hb) <;> try (exfalso;omega))|refine Ob.intro ?_ ?_))
     ((conv=>whnf);refine jm (fun _=>rfl) 300 [0,1,2,3,4,5,6,7,8,9,10] hu1 (by kernel_rfl) leA (by exact qat kA) (by exact qn kA) (by exact qn _) (by kernel_rfl) ?_)
     replace hu1:=Hid.in hu1
     (repeat' ((conv=>whnf);first|refine zO ?_|refine Ob.auto ?_|(refine Ob.intro (by (first|first|exact ⟨by omega,by omega⟩|(simp only [zg];omega))) ?_)|(apply zB <;> intro hb <;> (try simp [-zd] at hb) <;> try (exfalso;omega))|refine Ob.intro ?_ ?_))
     refine ⟨Le.refl _,?_⟩
     (unfold stK boxK;repeat' (first|exact trivial|exact rfl|exact Le.refl _|exact SoLe.refl _|exact fun _ _=>LeL.refl _|exact fun _ _ _ _=>LeL.refl _|refine And.intro ?_ ?_))
    | false=>
     rw [ze (by decide)]
     (repeat' ((conv=>whnf);first|refine zO ?_|refine Ob.auto ?_|(refine Ob.intro (by (first|first|exact ⟨by omega,by omega⟩|(simp only [zg];omega))) ?_)|(apply zB <;> intro hb <;> (try simp [-zd] at hb) <;> try (exfalso;omega))|refine Ob.intro ?_ ?_))
     ((conv=>whnf);refine qgh (fun _=>rfl) 300 (.bool false) (by kernel_rfl) qf (fun he=>?_) (fun he=>absurd he (by decide)))
     ((conv=>whnf);refine jm (fun _=>rfl) 300 [0,1,2,3,4,5,6,7,8,9,10] hpt (by kernel_rfl) leA (by exact qat kA) (by exact qn kA) (by exact qn _) (by kernel_rfl) ?_)
     replace hpt:=Hid.in hpt
     (repeat' ((conv=>whnf);first|refine zO ?_|refine Ob.auto ?_|(refine Ob.intro (by (first|first|exact ⟨by omega,by omega⟩|(simp only [zg];omega))) ?_)|(apply zB <;> intro hb <;> (try simp [-zd] at hb) <;> try (exfalso;omega))|refine Ob.intro ?_ ?_))
     ((conv=>whnf);refine jm (fun _=>rfl) 300 [0,1,2,3,4,5,6,7,8,9,10] hu2 (by kernel_rfl) leA (by exact qat kA.prop.1) (by exact qn kA.prop.1) (by exact qn _) (by kernel_rfl) ?_)
     replace hu2:=Hid.in hu2
     (repeat' ((conv=>whnf);first|refine zO ?_|refine Ob.auto ?_|(refine Ob.intro (by (first|first|exact ⟨by omega,by omega⟩|(simp only [zg];omega))) ?_)|(apply zB <;> intro hb <;> (try simp [-zd] at hb) <;> try (exfalso;omega))|refine Ob.intro ?_ ?_))
     refine ⟨Le.refl _,?_⟩
     (unfold stK boxK;repeat' (first|exact trivial|exact rfl|exact Le.refl _|exact SoLe.refl _|exact fun _ _=>LeL.refl _|exact fun _ _ _ _=>LeL.refl _|refine And.intro ?_ ?_))
end Go.Proofs.Ytkhdldncbmkidaa
