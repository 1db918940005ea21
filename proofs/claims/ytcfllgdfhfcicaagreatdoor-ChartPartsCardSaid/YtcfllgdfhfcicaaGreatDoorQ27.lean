/- Some texts of the library, one behind the other. -/
import Derived.Test.YtcfllgdfhfcicaaGreatDoorQ17
import Derived.Test.YtcfllgdfhfcicaaGreatDoorQ3
import Derived.Test.YtcfllgdfhfcicaaGreatDoorQ2
set_option linter.unusedSimpArgs false
set_option linter.unusedVariables false
section
namespace Go.Proofs.YtcfllgdfhfcicaaGreatDoor
open List renaming getD_eq_getElem?_getD → zd
open Go Go.Sx Go.RowKit Go.St
set_option maxRecDepth 100000
set_option maxHeartbeats 2000000
theorem jtp (m:Md) (hm:MOk m) (p:Int) (s:List UInt8):Con Tryz.prog 94 [m.av,iv p,.str s] (iv (varN m p s)):=by
 have hg:=hm.glob
 have hsz:=hm.sz
 refine zK {} 300 Tryz.func94 (fun c0 rdb=>?_)
 (repeat' ((conv=>whnf);first|refine Ob.auto ?_|(apply zB <;> intro hb <;> (try simp [-zd] at hb) <;> try (exfalso;omega))))
 ·have hp:0≤p∧p<m.procs.length:=by assumption
  have hq:=hm.procs _ (qe m.procs p.toNat pr0 (by omega))
  have hq2:=hm.psz _ (qe m.procs p.toNat pr0 (by omega))
  have hv:varN m p s=_:=zb hp
  ((conv=>whnf);refine qkh (fun _=>rfl) 300 1 [2,3,7] [0,1] (fun i:Nat=>[(8,iv i)]) (fun _=>[]) (fun i=>i≤(m.procs.getD p.toNat pr0).names.length∧∀ j,j<i→((m.procs.getD p.toNat pr0).names.getD j [] == s)=false) (fun i=>(m.procs.getD p.toNat pr0).names.length - i) (0) (⟨by omega,fun j hj=>absurd hj (zh j)⟩) qa qa (fun _=>rfl) (by kernel_rfl) ?_;(conv=>whnf))
  intro i hi
  (repeat' ((conv=>whnf);first|refine Ob.auto ?_|(apply zB <;> intro hb <;> (try simp [-zd] at hb) <;> try (exfalso;omega))))
  ·refine Le.of_eq (congrArg (AV.int _) ?_)
   have:=qdt (· == s) (m.procs.getD p.toNat pr0).names [] i (by assumption) (beq_iff_eq.2 (by assumption)) hi.2
   rw [hv,this,za (by omega)]
  ·((conv=>whnf);refine ⟨i+1,⟨by omega,qan hi.2 (beq_eq_false_iff_ne.2 (by assumption))⟩,⟨qa,qa⟩,⟨qa,qa⟩,?_⟩;(first|omega|(dsimp only;omega)|skip))
  ·refine Le.of_eq (congrArg (AV.int _) ?_)
   have:=qev (· == s) (m.procs.getD p.toNat pr0).names [] (fun j hj=>hi.2 j (by omega))
   rw [hv,this,zb (by omega)]
 ·have hp:¬ (0≤p∧p<m.procs.length):=by omega
  have hv:varN m p s=_:=za hp
  have htk:∀ j:Nat,(j:Int)<m.globals→(m.vars.take m.globals.toNat).getD j vr0=m.vars.getD j vr0:=fun j hj=>by
   rw [zd,zaa,zb (by omega),← zd]
  have hl:(m.vars.take m.globals.toNat).length=m.globals.toNat:=by rw [zw];omega
  ((conv=>whnf);refine qkh (fun _=>rfl) 300 1 [2,3] [0] (fun i:Nat=>[(9,iv i)]) (fun _=>[]) (fun i=>(i:Int)≤m.globals∧∀ j,j<i→((m.vars.getD j vr0).name == s)=false) (fun i=>m.globals.toNat - i) (0) (⟨by omega,fun j hj=>absurd hj (zh j)⟩) qa qa (fun _=>rfl) (by kernel_rfl) ?_;(conv=>whnf))
  intro i hi
  (repeat' ((conv=>whnf);first|refine Ob.auto ?_|(apply zB <;> intro hb <;> (try simp [-zd] at hb) <;> try (exfalso;omega))))
  ·refine Le.of_eq (congrArg (AV.int _) ?_)
   have:=qdt (fun v:Vr=>v.name == s) (m.vars.take m.globals.toNat) vr0 i (by omega) (by rw [htk i (by omega)];exact beq_iff_eq.2 (by assumption)) (fun j hj=>by rw [htk j (by omega)];exact hi.2 j hj)
   rw [hv,this]
  ·((conv=>whnf);refine ⟨i+1,⟨by omega,qan hi.2 (beq_eq_false_iff_ne.2 (by assumption))⟩,⟨qa,qa⟩,⟨qa,qa⟩,?_⟩;(first|omega|(dsimp only;omega)|skip))
  ·refine Le.of_eq (congrArg (AV.int _) ?_)
   have:=qev (fun v:Vr=>v.name == s) (m.vars.take m.globals.toNat) vr0 (fun j hj=>by rw [htk j (by omega)];exact hi.2 j (by omega))
   rw [hv,this]
theorem qxf (m:Md) (hm:MOk m) (p:Int) (s:Stt) (hs:SOk m s):∀ (n:Nat) (k:Int),0≤k→k<m.tree.length→m.tree.length - k.toNat≤n→Con Tryz.prog 56 [m.av,iv p,s.av,iv k] (qkj (valN m p s n k)):=by
  intro n
  induction n with
  | zero=>intro k h0 h1 h2;omega
  | succ n ih=>
    intro k h0 h1 h2
    have hnd:=hm.tree k.toNat (by omega)
    have h17:=hnd.num
    have h18:=hnd.word
    have h20:=hnd.un
    have h22:=hnd.bin
    have hsz:=hm.sz
    have hvb:=jbs hm hs p n
    have hvl:=hs.vl
    have hcl:=hs.cl
    refine zK {} 600 Tryz.func56 (fun c0 rdb=>?_)
    (repeat' ((conv=>whnf);first|refine Ob.auto ?_|refine zC 600 (qji _ _) ?_|(apply zB <;> intro hb <;> (try simp [-zd] at hb) <;> try (exfalso;omega))))
    · refine Le.of_eq ?_
      rw [valN,zb (by assumption)];rfl
    · have hvn:=qvd hm p ((m.tree.getD k.toNat nd0).words.getD 0 [])
      ((conv=>whnf);refine qka (fun _=>rfl) (by kernel_rfl) 600 [iv (varN m p ((m.tree.getD k.toNat nd0).words.getD 0 []))] (by kernel_rfl) ?_)
      (repeat' ((conv=>whnf);first|refine Ob.auto ?_|(refine Ob.intro (by (first|exact ⟨by omega,by omega⟩|exact ⟨_,jtp m hm p _,by rfl,LeL.refl _⟩)) ?_)|(apply zB <;> intro hb <;> (try simp [-zd] at hb) <;> try (exfalso;omega))))
      · refine Le.of_eq ?_
        rw [valN,za (by assumption),zb (by assumption),zb (by assumption)];rfl
      · refine Le.of_eq ?_
        rw [valN,za (by assumption),zb (by assumption),za (by omega)];rfl
    · ((conv=>whnf);refine qkh (fun _=>rfl) 600 1 [4,6,10] [0,1,2] (fun i:Nat=>[(12,iv i)]) (fun _=>[]) (fun i=>i≤m.chans.length∧∀ j,j<i→((m.chans.getD j ch0).name == (m.tree.getD k.toNat nd0).words.getD 0 [])=false) (fun i=>m.chans.length - i) (0) (⟨by omega,fun j hj=>absurd hj (zh j)⟩) qa qa (fun _=>rfl) (by kernel_rfl) ?_;(conv=>whnf))
      intro i hi
      (repeat' ((conv=>whnf);first|refine Ob.auto ?_|(refine zN 600 ?_)|(apply zB <;> intro hb <;> (try simp [-zd] at hb) <;> try (exfalso;omega))))
      · refine Le.of_eq ?_
        have:=qdt (fun c:Ch=>c.name == (m.tree.getD k.toNat nd0).words.getD 0 []) m.chans ch0 i (by omega) (beq_iff_eq.2 (by assumption)) hi.2
        rw [valN,za (by assumption),za (by assumption),zb (by assumption),this,za (by omega)];rfl
      · ((conv=>whnf);refine ⟨i+1,⟨by omega,qan hi.2 (beq_eq_false_iff_ne.2 (by assumption))⟩,⟨qa,qa⟩,⟨qa,qa⟩,?_⟩;(first|omega|(dsimp only;omega)|skip))
      · refine Le.of_eq ?_
        have:=qev (fun c:Ch=>c.name == (m.tree.getD k.toNat nd0).words.getD 0 []) m.chans ch0 (fun j hj=>hi.2 j (by omega))
        rw [valN,za (by assumption),za (by assumption),zb (by assumption),this,zb (by omega)];rfl
    · have hk:=h20 (.inl (by assumption))
      have hb0:=hvb ((m.tree.getD k.toNat nd0).kids.getD 0 0)
      ((conv=>whnf);refine qka (fun _=>rfl) (by kernel_rfl) 600 [.tup [iv (valN m p s n ((m.tree.getD k.toNat nd0).kids.getD 0 0)).1,.bool (valN m p s n ((m.tree.getD k.toNat nd0).kids.getD 0 0)).2]] (by kernel_rfl) ?_)
      (repeat' ((conv=>whnf);first|refine Ob.auto ?_|(refine Ob.intro (by (first|exact ⟨by omega,by omega⟩|exact ⟨_,ih _ (by omega) (by omega) (by omega),by rfl,LeL.refl _⟩)) ?_)|refine zC 600 (qji _ _) ?_|fail))
      refine Le.of_eq ?_
      rw [valN,za (by assumption),za (by assumption),za (by assumption),zb (by assumption)];rfl
    · have hk:=h20 (.inr (by assumption))
      have hb0:=hvb ((m.tree.getD k.toNat nd0).kids.getD 0 0)
      have hv:=qve m p s n k (by assumption)
      ((conv=>whnf);refine qka (fun _=>rfl) (by kernel_rfl) 600 [.tup [iv (valN m p s n ((m.tree.getD k.toNat nd0).kids.getD 0 0)).1,.bool (valN m p s n ((m.tree.getD k.toNat nd0).kids.getD 0 0)).2]] (by kernel_rfl) ?_)
      (repeat' ((conv=>whnf);first|refine Ob.auto ?_|(refine Ob.intro (by (first|exact ⟨by omega,by omega⟩|exact ⟨_,ih _ (by omega) (by omega) (by omega),by rfl,LeL.refl _⟩)) ?_)|refine zC 600 (jec _) ?_|fail))
      refine Le.of_eq ?_
      rw [hv];rfl
    · have hk:=h22 (by assumption)
      have hb0:=hvb ((m.tree.getD k.toNat nd0).kids.getD 0 0)
      have hb1:=hvb ((m.tree.getD k.toNat nd0).kids.getD 1 0)
      have hv:=qvf m p s n k (by assumption)
      have hnt:(m.tree.getD k.toNat nd0).nums.getD (Int.toNat 0) 0=(m.tree.getD k.toNat nd0).nums.getD 0 0:=rfl
      rw [hv]
      generalize hA:valN m p s n ((m.tree.getD k.toNat nd0).kids.getD 0 0)=A at hb0 hv ⊢
      generalize hB:valN m p s n ((m.tree.getD k.toNat nd0).kids.getD 1 0)=B at hb1 hv ⊢
      have ihA:=ih ((m.tree.getD k.toNat nd0).kids.getD 0 0) (by omega) (by omega) (by omega)
      have ihB:=ih ((m.tree.getD k.toNat nd0).kids.getD 1 0) (by omega) (by omega) (by omega)
      rw [hA] at ihA
      rw [hB] at ihB
      obtain ⟨a,x⟩:=A
      obtain ⟨b,y⟩:=B
      simp only at hb0 hb1
      ((conv=>whnf);refine qka (fun _=>rfl) (by kernel_rfl) 600 [.tup [iv a,.bool x]] (by kernel_rfl) ?_)
      (repeat' ((conv=>whnf);first|refine Ob.auto ?_|(refine Ob.intro (by (first|exact ⟨by omega,by omega⟩|exact ⟨_,ihA,by rfl,LeL.refl _⟩)) ?_)|fail))
      ((conv=>whnf);refine qka (fun _=>rfl) (by kernel_rfl) 600 [.tup [iv b,.bool y]] (by kernel_rfl) ?_)
      (repeat' ((conv=>whnf);first|refine Ob.auto ?_|(refine Ob.intro (by (first|exact ⟨by omega,by omega⟩|exact ⟨_,ihB,by rfl,LeL.refl _⟩|exact qec (by omega) (by omega))) ?_)|refine zC 600 (jec _) ?_|refine zC 600 (jsm _ _ _ (by omega) (by omega)) ?_|(apply zB <;> intro hb <;> (try simp [-zd] at hb) <;> try (exfalso;omega))))
      all_goals
        refine Le.of_eq ?_
        clear ih ihA ihB hm hs hnd h17 h18 h20 h22 hvb hA hB hv
        have hs8:=hk.2.2.2
        first
          | (rw [jpg _ hs8 (by assumption)];rfl)
          | (rw [jph _ (And.left (by assumption))]
             first
               | (rw [jpf _ _ _ hs8 (by omega) (by omega)];rfl)
               | (rw [‹(m.tree.getD k.toNat nd0).nums.getD 0 0=_›];rfl))
    · refine Le.of_eq ?_
      rw [valN,za (by assumption),za (by assumption),za (by assumption),za (by assumption),za (by assumption),za (by assumption)];rfl
end Go.Proofs.YtcfllgdfhfcicaaGreatDoor
end
section
namespace Go.Proofs.YtcfllgdfhfcicaaGreatDoor
open Go Go.Sx Go.RowKit Go.St
set_option maxRecDepth 100000
set_option maxHeartbeats 2000000


end Go.Proofs.YtcfllgdfhfcicaaGreatDoor
end
section
namespace Go.Proofs.YtcfllgdfhfcicaaGreatDoor
open List renaming getD_eq_getElem?_getD → zd
open Go Go.Sx Go.RowKit Go.St
set_option maxRecDepth 100000
set_option maxHeartbeats 2000000
theorem jtq (x:Int) (c:Ch):Con Tryz.prog 144 [iv x,.rptr c.cells] (.bool (!(trim x c.width == x))):=by
 refine zK {} 300 Tryz.func144 (fun c0 rdb=>?_)
 (repeat' ((conv=>whnf);first|refine Ob.auto ?_|refine zC 300 (jee _ _) ?_|fail))
 exact Le.refl _
theorem jtr (l:List Int) (c:Ch) (hl:l.length≤1000000):Con Tryz.prog 167 [ints l,.fn 144 [.rptr c.cells]] (iv (idx (fun x=>!(trim x c.width == x)) l)):=by
 refine zK {} 300 Tryz.func167 (fun c0 rdb=>?_)
 ((conv=>whnf);refine qo (fun _=>rfl) 300 1 (fun i:Nat=>[(8,iv i)]) (fun _=>[]) (fun i=>i≤l.length∧∀ j,j<i→(!(trim (l.getD j 0) c.width == l.getD j 0))=false) (fun i=>l.length - i) (0) (⟨by omega,fun j hj=>absurd hj (zh j)⟩) qa qa (fun _=>rfl) (by kernel_rfl) ?_;(conv=>whnf))
 intro i hi
 (repeat' ((conv=>whnf);first|refine Ob.auto ?_|refine zC 300 (jtq _ c) ?_|(apply zB <;> intro hb <;> (try simp [-zd] at hb) <;> try (exfalso;omega))))
 ·refine Le.of_eq (congrArg (AV.int _) ?_)
  exact (qdt _ l 0 i (by omega) (by simp [-zd,hb]) hi.2).symm
 ·((conv=>whnf);refine ⟨i+1,⟨by omega,qan hi.2 (by simp [-zd,hb])⟩,⟨qa,qa⟩,⟨qa,qa⟩,?_⟩;(first|omega|(dsimp only;omega)|skip))
 ·refine Le.of_eq (congrArg (AV.int _) ?_)
  exact (qev _ l 0 (fun j hj=>hi.2 j (by omega))).symm
theorem jts {α:Type} (q:α→Bool) (l:List α):decide (0≤Go.St.idx q l)=l.any q:=by
 unfold Go.St.idx
 cases h:l.findIdx? q with
 | none=>
  rw [List.findIdx?_eq_none_iff] at h
  have:l.any q=false:=by rw [xt];intro h';rw [List.any_eq_true] at h';obtain ⟨x,hx,hq⟩:=h';rw [h x hx] at hq;cases hq
  rw [this];rfl
 | some i=>
  rw [zau] at h
  obtain ⟨h1,h2,_⟩:=h
  have:l.any q=true:=by rw [List.any_eq_true];exact ⟨_,zao h1,h2⟩
  rw [this];exact zo (by simp)
theorem jtt (l:List Int) (c:Ch) (hl:l.length≤1000000):Con Tryz.prog 145 [ints l,.fn 144 [.rptr c.cells]] (.bool (l.any fun x=>!(trim x c.width == x))):=by
 refine zK {} 300 Tryz.func145 (fun c0 rdb=>?_)
 (repeat' ((conv=>whnf);first|refine Ob.auto ?_|refine zC 300 (jtr l c hl) ?_|fail))
 refine Le.of_eq (congrArg AV.bool ?_)
 exact jts _ l
theorem qij (m:Md) (s:Stt) (hs:SSz s):Con Tryz.prog 117 [m.av,s.av] (.bool (qm m s)):=by
 have ha:=hs.a
 have hv:=hs.v
 have hc:=hs.c
 refine zK {} 600 Tryz.func117 (fun c0 rdb=>?_)
 (repeat' ((conv=>whnf);first|refine Ob.auto ?_|(apply zB <;> intro hb <;> (try simp [-zd] at hb) <;> try (exfalso;omega))))
 ·refine Le.of_eq (congrArg AV.bool ?_)
  exact (jbu (by unfold qri;omega)).symm
 have h0:s.at_.length=m.procs.length∧s.vars.length=m.vars.length∧s.chans.length=m.chans.length:=by omega
 clear hb
 ((conv=>whnf);refine qo (fun _=>rfl) 600 1 (fun i:Nat=>[(41,iv i)]) (fun _=>[]) (fun i=>i≤s.at_.length∧∀ j,j<i→qnq m s j) (fun i=>s.at_.length - i) (0) (⟨by omega,fun j hj=>absurd hj (zh j)⟩) qa qa (fun _=>rfl) (by kernel_rfl) ?_;(conv=>whnf))
 intro i hi
 (repeat' ((conv=>whnf);first|refine Ob.auto ?_|(apply zB <;> intro hb <;> (try simp [-zd] at hb) <;> try (exfalso;omega))))
 ·refine Le.of_eq (congrArg AV.bool ?_)
  exact (jpi i (by omega) (by omega)).symm
 ·((conv=>whnf);refine ⟨i+1,⟨by omega,qan hi.2 hb⟩,⟨qa,qa⟩,⟨qa,qa⟩,?_⟩;(first|omega|(dsimp only;omega)|skip))
 obtain rfl:i=s.at_.length:=by omega
 have hA:=hi.2
 clear hi hb
 ((conv=>whnf);refine qo (fun _=>rfl) 600 2 (fun i:Nat=>[(62,iv i)]) (fun _=>[]) (fun i=>i≤s.vars.length∧∀ j,j<i→qlx m s j) (fun i=>s.vars.length - i) (0) (⟨by omega,fun j hj=>absurd hj (zh j)⟩) qa qa (fun _=>rfl) (by kernel_rfl) ?_;(conv=>whnf))
 intro i hi
 (repeat' ((conv=>whnf);first|refine Ob.auto ?_|refine zC 600 (jee _ _) ?_|(apply zB <;> intro hb <;> (try simp [-zd] at hb) <;> try (exfalso;omega))))
 ·refine Le.of_eq (congrArg AV.bool ?_)
  exact (jpj i (by omega) hb).symm
 ·((conv=>whnf);refine ⟨i+1,⟨by omega,qan hi.2 hb⟩,⟨qa,qa⟩,⟨qa,qa⟩,?_⟩;(first|omega|(dsimp only;omega)|skip))
 obtain rfl:i=s.vars.length:=by omega
 have hV:=hi.2
 clear hi hb
 ((conv=>whnf);refine qo (fun _=>rfl) 600 3 (fun i:Nat=>[(80,iv i)]) (fun _=>[]) (fun i=>i≤s.chans.length∧∀ j,j<i→qiz m s j∧∀ k,k<(s.chans.getD j []).length→qkk m s j k) (fun i=>s.chans.length - i) (0) (⟨by omega,fun j hj=>absurd hj (zh j)⟩) qa qa (fun _=>rfl) (by kernel_rfl) ?_;(conv=>whnf))
 intro i hi
 have hlc:i<s.chans.length→_:=fun h=>hs.l _ (qe s.chans i [] h)
 (repeat' ((conv=>whnf);first|refine Ob.auto ?_|refine zF 600 (fun hg=>jtt (s.chans.getD i []) (m.chans.getD i ch0) (hlc (by omega))) ?_|(apply zB <;> intro hb <;> (try simp [-zd] at hb) <;> try (exfalso;omega))))
 ·refine Le.of_eq (congrArg AV.bool ?_)
  rcases hb with hb|⟨x,hx,hb⟩
  ·exact (jpk i (by omega) (by unfold qiz;omega)).symm
  ·obtain ⟨k,hk,hx⟩:=List.mem_iff_getElem.1 hx
   refine (jpl i k (by omega) hk ?_).symm
   have:(s.chans.getD i []).getD k 0=x:=by rw [zd,ze hk];exact hx
   unfold qkk
   rw [this];exact hb
 ·((conv=>whnf);refine ⟨i+1,⟨by omega,qan hi.2 ⟨by unfold qiz;omega,fun k hk=>hb.2 _ (qe _ k 0 hk)⟩⟩,⟨qa,qa⟩,⟨qa,qa⟩,?_⟩;(first|omega|(dsimp only;omega)|skip))
 ·refine Le.of_eq (congrArg AV.bool ?_)
  by_cases hh:-1≤s.holder∧s.holder<m.procs.length
  ·rw [(jg m s).2 ⟨⟨h0.1,h0.2.1,h0.2.2,hh⟩,hA,hV,fun j hj=>hi.2 j (by omega)⟩]
   simp [hh]
  ·rw [jbu (m:=m) (s:=s) (by unfold qri;omega)]
   simp;omega
end Go.Proofs.YtcfllgdfhfcicaaGreatDoor
end
section
namespace Go.Proofs.YtcfllgdfhfcicaaGreatDoor
open Go Go.Sx Go.RowKit Go.St
set_option maxRecDepth 100000
set_option maxHeartbeats 2000000

end Go.Proofs.YtcfllgdfhfcicaaGreatDoor
end
