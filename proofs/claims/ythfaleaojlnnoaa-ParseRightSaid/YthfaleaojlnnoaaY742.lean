/- Some texts of the library, one behind the other. -/
import Derived.Test.YthfaleaojlnnoaaY7RgS
import Derived.Test.YthfaleaojlnnoaaY7RgQ
import Derived.Test.YthfaleaojlnnoaaY77
import Derived.Test.YthfaleaojlnnoaaY72
set_option linter.unusedSimpArgs false
set_option linter.unusedVariables false
section
namespace Go.Proofs.Ythfaleaojlnnoaa
open List renaming getD_eq_getElem?_getD → zd
open Go Go.Sx Go.RowKit Go.St
set_option maxRecDepth 100000
set_option maxHeartbeats 8000000
theorem jcp {l:List Nd} {w:Int→Int × Bool} {k:Int} {r:List Int} {ks:List Int}:qds l w (k::r) k ks=if (w k).2=false then none else qds l w r (w k).1 (ks++[(l.getD k.toNat nd0).kind]):=by
 rw [qds,za (fun h=>h rfl)]
theorem jph {α:Type} (enc:α→List AV) (d:α) {l l':List α} {x:α} (h:l++[x]=l') {ids:List Nat} {e:TypeId} {sz ep:Nat} {g:Nat→List AV} (hg:g 0=enc x):SoLe (.row ids e sz ep (l.length+1) (appF l.length (encL enc d l) 1 g)) (.row ids e sz ep l'.length (encL enc d l')):=by
 subst h;exact ⟨⟨rfl,rfl,rfl⟩,rfl,by rw [xa];rfl,jin hg⟩
theorem jpi {α:Type} {l l':List α} {x:α} (h:l++[x]=l') (r:Nat):Le (.own r 0 0 (l.length+1)) (.own r 0 0 l'.length):=by
 subst h;exact Le.of_eq (by rw [xa];rfl)
theorem qjn (l:List Nd) (hl:l.length≤800) (hz:∀ n∈l,NdSz n):∀ (d:Nat) (a D:Int),D+d=21→1≤D→0≤a→a≤1000→Con Try.prog 26 [qcv l,iv a,iv D] (.tup [iv (qal l d a).1,.bool (qal l d a).2])
 | 0,a,D,hD,hD1,h0,h1=>by
  show Con _ _ _ (.tup [iv 0,.bool false])
  have hD':D=21:=by omega
  subst hD'
  refine zK {} 300 Try.func26 (fun c0 rdb=>?_)
  (repeat' ((conv=>whnf);first|refine zA ?_|refine zO ?_|refine Ob.auto ?_|refine zD 300 ?_|(apply zB <;> intro hb <;> (try simp [-zd] at hb) <;> (try (exfalso;omega)) <;> (try contradiction))|refine Ob.intro ?_ ?_))
  all_goals exact Le.refl _
 | d+1,a,D,hD,hD1,h0,h1=>by
  by_cases ha:(l.length:Int)≤a
  ·have e:qal l (d+1) a=(0,false):=by rw [qal,zb ha]
   rw [e]
   refine zK {} 300 Try.func26 (fun c0 rdb=>?_)
   (repeat' ((conv=>whnf);first|refine zA ?_|refine zO ?_|refine Ob.auto ?_|refine zD 300 ?_|(apply zB <;> intro hb <;> (try simp [-zd] at hb) <;> (try (exfalso;omega)) <;> (try contradiction))|refine Ob.intro ?_ ?_))
   all_goals exact Le.refl _
  ·have e:qal l (d+1) a=endT l a (qds l (qal l d) (l.getD a.toNat nd0).kids (a+1) []):=by rw [qal,za ha]
   rw [e]
   have hx:=hz _ (qiw l a.toNat nd0 (by omega))
   have hkl:=hx.lk
   generalize hX:endT l a (qds l (qal l d) (l.getD a.toNat nd0).kids (a+1) [])=X
   refine zK {owns:=[(24,(3,1))]} 300 Try.func26 (fun c0 rdb=>?_)
   (repeat' ((conv=>whnf);first|refine zA ?_|refine zO ?_|refine Ob.auto ?_|refine zI ?_|refine zD 300 ?_|(apply zB <;> intro hb <;> (try simp [-zd] at hb) <;> (try (exfalso;omega)) <;> (try contradiction))|refine Ob.intro ?_ ?_))
   ((conv=>whnf);refine qbb (fun _=>rfl) 300 1 (fun g:Nat × Int × List Int=>[(31,iv g.1),(8,iv g.2.1),(9,.own 0 0 0 g.2.2.length)]) (fun g=>[(0,.row [] 3 1 0 g.2.2.length (encL (fun n=>[iv n]) 0 g.2.2))]) (fun g=>g.1≤(l.getD a.toNat nd0).kids.length∧endT l a (qds l (qal l d) ((l.getD a.toNat nd0).kids.drop g.1) g.2.1 g.2.2)=X∧a<g.2.1∧g.2.1≤l.length∧(g.2.2.length:Int)≤g.2.1 - a - 1) (fun g=>(l.getD a.toNat nd0).kids.length - g.1) ((0,a+1,[])) (⟨xv _,hX,by show a<a+1;omega,by show a+1≤_;omega,by show ((0:Nat):Int)≤a+1 - a - 1;omega⟩) qa qa (fun _=>rfl) (by kernel_rfl) ?_;(conv=>whnf))
   rintro ⟨i,nx,ks⟩ ⟨p1,p2,p3,p4,p5⟩
   simp only at p1 p2 p3 p4 p5
   have hdr:=fun h=>qpt (l.getD a.toNat nd0).kids i 0 h
   have hks:ks.length≤9223372036854775807:=by omega
   by_cases hk:(l.getD a.toNat nd0).kids.getD i 0=nx
   ·subst hk
    have hK0:0≤(l.getD a.toNat nd0).kids.getD i 0:=by omega
    have ih:=qjn l hl hz d ((l.getD a.toNat nd0).kids.getD i 0) (D+1) (by omega) (by omega) hK0 (by omega)
    have hgood:(qal l d ((l.getD a.toNat nd0).kids.getD i 0)).2=true→(l.getD a.toNat nd0).kids.getD i 0<(qal l d ((l.getD a.toNat nd0).kids.getD i 0)).1∧(qal l d ((l.getD a.toNat nd0).kids.getD i 0)).1≤l.length:=fun h=>jkr l hl (d:=d) hK0 (Prod.ext rfl h)
    (repeat' ((conv=>whnf);first|refine zA ?_|refine zO ?_|refine Ob.auto ?_|(refine Ob.intro (by (first|exact ⟨by omega,by omega⟩|exact ⟨hK0,Int.lt_of_lt_of_le (hgood (by assumption)).1 (hgood (by assumption)).2⟩)) ?_)|refine zC 300 (ih) ?_|refine zG 300 (fun hg=>ih) ?_|(refine CallY.con (ih) (by rfl) leA ?_)|(refine CallZ.con (fun hg=>ih) qn (by rfl) ?_)|refine zC 300 (qem _ hx) ?_|refine zG 300 (fun hg=>qem _ hx) ?_|(refine CallY.con (qem _ hx) (by rfl) leA ?_)|(refine CallZ.con (fun hg=>qem _ hx) qn (by rfl) ?_)|refine zC 300 (qeo _ hx) ?_|refine zG 300 (fun hg=>qeo _ hx) ?_|(refine CallY.con (qeo _ hx) (by rfl) leA ?_)|(refine CallZ.con (fun hg=>qeo _ hx) qn (by rfl) ?_)|refine zC 300 (qeq (l.getD a.toNat nd0).kind ks hks) ?_|refine zG 300 (fun hg=>qeq (l.getD a.toNat nd0).kind ks hks) ?_|(refine CallY.con (qeq (l.getD a.toNat nd0).kind ks hks) (by rfl) leA ?_)|(refine CallZ.con (fun hg=>qeq (l.getD a.toNat nd0).kind ks hks) qn (by rfl) ?_)|(refine ql (fun _=>rfl) 300 (ih) qc (by (repeat' (first|exact trivial|exact Le.refl _|(refine And.intro ?_ ?_))) <;> fail) (by rfl) (by kernel_rfl) ?_)|(refine qp (fun _=>rfl) 300 (fun hg=>ih) (fun hg=>qc) (fun hg=>(by (repeat' (first|exact trivial|exact Le.refl _|exact Le.cnd hg|(refine And.intro ?_ ?_))) <;> fail)) (by rfl) (by kernel_rfl) ?_)|(refine ql (fun _=>rfl) 300 (qem _ hx) qc (by (repeat' (first|exact trivial|exact Le.refl _|(refine And.intro ?_ ?_))) <;> fail) (by rfl) (by kernel_rfl) ?_)|(refine qp (fun _=>rfl) 300 (fun hg=>qem _ hx) (fun hg=>qc) (fun hg=>(by (repeat' (first|exact trivial|exact Le.refl _|exact Le.cnd hg|(refine And.intro ?_ ?_))) <;> fail)) (by rfl) (by kernel_rfl) ?_)|(refine ql (fun _=>rfl) 300 (qeo _ hx) qc (by (repeat' (first|exact trivial|exact Le.refl _|(refine And.intro ?_ ?_))) <;> fail) (by rfl) (by kernel_rfl) ?_)|(refine qp (fun _=>rfl) 300 (fun hg=>qeo _ hx) (fun hg=>qc) (fun hg=>(by (repeat' (first|exact trivial|exact Le.refl _|exact Le.cnd hg|(refine And.intro ?_ ?_))) <;> fail)) (by rfl) (by kernel_rfl) ?_)|(refine ql (fun _=>rfl) 300 (qeq (l.getD a.toNat nd0).kind ks hks) qc (by (repeat' (first|exact trivial|exact Le.refl _|(refine And.intro ?_ ?_))) <;> fail) (by rfl) (by kernel_rfl) ?_)|(refine qp (fun _=>rfl) 300 (fun hg=>qeq (l.getD a.toNat nd0).kind ks hks) (fun hg=>qc) (fun hg=>(by (repeat' (first|exact trivial|exact Le.refl _|exact Le.cnd hg|(refine And.intro ?_ ?_))) <;> fail)) (by rfl) (by kernel_rfl) ?_)|refine zD 300 ?_|(apply zB <;> intro hb <;> (try simp [-zd] at hb) <;> try (exfalso;omega))|refine Ob.intro ?_ ?_))
    ·rw [hdr (by omega),jcp,zb (by assumption)] at p2
     subst p2
     exact Le.refl _
    ·have hg:=hgood (by assumption)
     rw [hdr (by omega),jcp,za (by rename_i hb;rw [hb];decide)] at p2
     ((conv=>whnf);refine ⟨(i+1,(qal l d ((l.getD a.toNat nd0).kids.getD i 0)).1,ks++[(l.getD ((l.getD a.toNat nd0).kids.getD i 0).toNat nd0).kind]),⟨by simp only;omega,p2,by simp only;omega,by simp only;omega,by simp only [xa,List.length_singleton];omega⟩,⟨⟨Le.refl _,Le.refl _,jpi rfl 0,trivial⟩,⟨jph (fun n=>[iv n]) 0 rfl rfl,trivial⟩⟩,⟨qa,qa⟩,?_⟩;(first|omega|(dsimp only;omega)|skip))
    ·obtain rfl:i=(l.getD a.toNat nd0).kids.length:=by omega
     rw [List.drop_length,qds] at p2
     subst p2
     exact Le.refl _
   ·(repeat' ((conv=>whnf);first|refine zA ?_|refine zO ?_|refine Ob.auto ?_|refine zI ?_|refine zC 300 (qem _ hx) ?_|refine zG 300 (fun hg=>qem _ hx) ?_|(refine CallY.con (qem _ hx) (by rfl) leA ?_)|(refine CallZ.con (fun hg=>qem _ hx) qn (by rfl) ?_)|refine zC 300 (qeo _ hx) ?_|refine zG 300 (fun hg=>qeo _ hx) ?_|(refine CallY.con (qeo _ hx) (by rfl) leA ?_)|(refine CallZ.con (fun hg=>qeo _ hx) qn (by rfl) ?_)|refine zC 300 (qeq (l.getD a.toNat nd0).kind ks hks) ?_|refine zG 300 (fun hg=>qeq (l.getD a.toNat nd0).kind ks hks) ?_|(refine CallY.con (qeq (l.getD a.toNat nd0).kind ks hks) (by rfl) leA ?_)|(refine CallZ.con (fun hg=>qeq (l.getD a.toNat nd0).kind ks hks) qn (by rfl) ?_)|(refine ql (fun _=>rfl) 300 (qem _ hx) qc (by (repeat' (first|exact trivial|exact Le.refl _|(refine And.intro ?_ ?_))) <;> fail) (by rfl) (by kernel_rfl) ?_)|(refine qp (fun _=>rfl) 300 (fun hg=>qem _ hx) (fun hg=>qc) (fun hg=>(by (repeat' (first|exact trivial|exact Le.refl _|exact Le.cnd hg|(refine And.intro ?_ ?_))) <;> fail)) (by rfl) (by kernel_rfl) ?_)|(refine ql (fun _=>rfl) 300 (qeo _ hx) qc (by (repeat' (first|exact trivial|exact Le.refl _|(refine And.intro ?_ ?_))) <;> fail) (by rfl) (by kernel_rfl) ?_)|(refine qp (fun _=>rfl) 300 (fun hg=>qeo _ hx) (fun hg=>qc) (fun hg=>(by (repeat' (first|exact trivial|exact Le.refl _|exact Le.cnd hg|(refine And.intro ?_ ?_))) <;> fail)) (by rfl) (by kernel_rfl) ?_)|(refine ql (fun _=>rfl) 300 (qeq (l.getD a.toNat nd0).kind ks hks) qc (by (repeat' (first|exact trivial|exact Le.refl _|(refine And.intro ?_ ?_))) <;> fail) (by rfl) (by kernel_rfl) ?_)|(refine qp (fun _=>rfl) 300 (fun hg=>qeq (l.getD a.toNat nd0).kind ks hks) (fun hg=>qc) (fun hg=>(by (repeat' (first|exact trivial|exact Le.refl _|exact Le.cnd hg|(refine And.intro ?_ ?_))) <;> fail)) (by rfl) (by kernel_rfl) ?_)|refine zD 300 ?_|(apply zB <;> intro hb <;> (try simp [-zd] at hb) <;> try (exfalso;omega))|refine Ob.intro ?_ ?_))
    ·rw [hdr (by omega),qds,zb hk] at p2
     subst p2
     exact Le.refl _
    ·obtain rfl:i=(l.getD a.toNat nd0).kids.length:=by omega
     rw [List.drop_length,qds] at p2
     subst p2
     exact Le.refl _
theorem jcq (l:List Nd) (hl:l.length≤9223372036854775807) (hz:∀ n∈l,NdSz n):Con Try.prog 15 [qcv l] (.bool (qdm l)):=by
 rw [← jkq]
 by_cases h0:(decide (l.length=0) || decide (800<l.length) || (l.getD 0 nd0).kind != 0)=true
 ·have hr:qkx l=false:=by unfold qkx;rw [h0];rfl
  rw [hr]
  simp only [xh,zo,bne_iff_ne,ne_eq] at h0
  refine zK {} 300 Try.func15 (fun c0 rdb=>?_)
  (repeat' ((conv=>whnf);first|refine zA ?_|refine zO ?_|refine Ob.auto ?_|(refine Ob.intro (by (first|exact ⟨by omega,by omega⟩|(intro h;simp at h;have:=List.length_pos_iff.2 h.1;exact ⟨by simp [h],by omega,by omega⟩))) ?_)|refine zD 300 ?_|(apply zB <;> intro hb <;> (try simp [-zd] at hb) <;> try (exfalso;omega))|refine Ob.intro ?_ ?_))
  ·exact Le.refl _
  ·exfalso
   have:=List.length_pos_iff.2 hb.1.1
   omega
 ·have h0':(decide (l.length=0) || decide (800<l.length) || (l.getD 0 nd0).kind != 0)=false:=by simpa using h0
  simp only [xh,zo,bne_iff_ne,ne_eq,not_or,Decidable.not_not] at h0
  have hr:qkx l=((qal l 20 0).2 && (qal l 20 0).1 == l.length):=by unfold qkx;rw [h0'];rfl
  rw [hr]
  refine zK {} 300 Try.func15 (fun c0 rdb=>?_)
  (repeat' ((conv=>whnf);first|refine zA ?_|refine zO ?_|refine Ob.auto ?_|refine zC 300 (qjn l (by omega) hz 20 0 1 (by omega) (by omega) (by omega) (by omega)) ?_|refine zG 300 (fun hg=>qjn l (by omega) hz 20 0 1 (by omega) (by omega) (by omega) (by omega)) ?_|(refine CallY.con (qjn l (by omega) hz 20 0 1 (by omega) (by omega) (by omega) (by omega)) (by rfl) leA ?_)|(refine CallZ.con (fun hg=>qjn l (by omega) hz 20 0 1 (by omega) (by omega) (by omega) (by omega)) qn (by rfl) ?_)|(refine ql (fun _=>rfl) 300 (qjn l (by omega) hz 20 0 1 (by omega) (by omega) (by omega) (by omega)) qc (by (repeat' (first|exact trivial|exact Le.refl _|(refine And.intro ?_ ?_))) <;> fail) (by rfl) (by kernel_rfl) ?_)|(refine qp (fun _=>rfl) 300 (fun hg=>qjn l (by omega) hz 20 0 1 (by omega) (by omega) (by omega) (by omega)) (fun hg=>qc) (fun hg=>(by (repeat' (first|exact trivial|exact Le.refl _|exact Le.cnd hg|(refine And.intro ?_ ?_))) <;> fail)) (by rfl) (by kernel_rfl) ?_)|refine zD 300 ?_|(apply zB <;> intro hb <;> (try simp [-zd] at hb) <;> try (exfalso;omega))|refine Ob.intro ?_ ?_))
  ·exfalso;rcases hb with (hb|hb)|hb
   ·rw [hb] at h0;simp at h0
   ·omega
   ·omega
  ·exact Le.refl _
end Go.Proofs.Ythfaleaojlnnoaa
end
section
namespace Go.Proofs.Ythfaleaojlnnoaa
open Go Go.Sx Go.RowKit Go.St
set_option maxRecDepth 100000
set_option maxHeartbeats 4000000
theorem jpj (l:List Nd) (n:Nd) (hn:NdSz n) (hk:∀ k∈n.kids,0≤k∧k<l.length):Con Try.prog 28 [qcv l,.agg n.cells] (.bool (qaa l n)):=by
 have hl:=hn.lk
 refine zK {} 600 Try.func28 (fun c0 rdb=>?_)
 (repeat' ((conv=>whnf);first|refine Ob.auto ?_|(refine Ob.intro (by ((intro h;refine ⟨h,?_⟩;simp only [zf,qt,xn] at h;omega))) ?_)|refine zC 600 (qzj n hn _) ?_|refine zG 600 (fun hg=>qzi n hn _ _) ?_|refine zG 600 (fun hg=>qzk l n hn hk 0 (by omega) _ _) ?_|refine zG 600 (fun hg=>jjz l n hn hk _ _ _ (by omega)) ?_|refine zG 600 (fun hg=>qtq _ _ _) ?_|(apply zB <;> intro hb <;> (try simp [-List.getD_eq_getElem?_getD] at hb) <;> try (exfalso;omega))))
 all_goals first
  | (refine Le.of_eq (congrArg AV.bool ?_);rw [qaa];((repeat (first|rw [zb (by omega)]|rw [za (by omega)])) <;> rfl))
  | skip
 ((conv=>whnf);refine qbb (fun _=>rfl) 600 1 (fun i:Nat=>[(6,iv i)]) (fun _=>[]) (fun i=>i≤n.kids.length∧∀ j,j<i→kidK l n j=2) (fun i=>n.kids.length - i) (0) (⟨by omega,fun j hj=>absurd hj (zv j)⟩) qa qa (fun _=>rfl) (by kernel_rfl) ?_;(conv=>whnf))
 intro i hi
 (repeat' ((conv=>whnf);first|refine Ob.auto ?_|(refine qws (fun _=>rfl) 600 (fun hg=>qtr l n i (by omega) (by first|omega|(have:=zag hg;omega)) hk) (by rfl) qn (by kernel_rfl) ?_)|refine zC 600 (qzj n hn _) ?_|refine zG 600 (fun hg=>qzi n hn _ _) ?_|refine zG 600 (fun hg=>qzk l n hn hk i (by omega) _ _) ?_|(apply zB <;> intro hb <;> (try simp [-List.getD_eq_getElem?_getD] at hb) <;> try (exfalso;omega))))
 ·((conv=>whnf);refine ⟨i+1,⟨by omega,qea hi.2 hb.2⟩,⟨qa,qa⟩,⟨qa,qa⟩,?_⟩;(first|omega|(dsimp only;omega)|skip))
 ·rename_i h3
  refine Le.of_eq (congrArg AV.bool ?_)
  rw [qaa,za (by omega),za (by omega),za (by omega),zb (by omega),qtk l n i hi.1 hi.2 (by omega)]
end Go.Proofs.Ythfaleaojlnnoaa
end
