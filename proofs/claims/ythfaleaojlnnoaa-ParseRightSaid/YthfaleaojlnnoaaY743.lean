/- Some texts of the library, one behind the other. -/
import Derived.Test.YthfaleaojlnnoaaY79
import Derived.Test.YthfaleaojlnnoaaY77
import Derived.Test.YthfaleaojlnnoaaY742
import Derived.Test.YthfaleaojlnnoaaY739
import Derived.Test.YthfaleaojlnnoaaY72
set_option linter.unusedSimpArgs false
set_option linter.unusedVariables false
section
namespace Go.Proofs.Ythfaleaojlnnoaa
open List renaming getD_eq_getElem?_getD → zd
open Go Go.Sx Go.RowKit Go.St
set_option maxRecDepth 100000
set_option maxHeartbeats 4000000
theorem jpk (l:List Nd) (hl:l.length≤9223372036854775807) (hz:∀ n∈l,NdSz n):∀ (f:Nat) (a deep:Int),0≤a→a<l.length→deep+f=21→f≤21→Con Try.prog 27 [qcv l,iv a,iv deep] (.tup [iv (walkF l f a).1,.bool (walkF l f a).2]):=by
 intro f
 induction f with
 | zero=>
  intro a deep h0 h1 hd hf
  refine zK {} 300 Try.func27 (fun c0 rdb=>?_)
  (repeat' ((conv=>whnf);first|refine Ob.auto ?_|(apply zB <;> intro hb <;> (try simp [-zd] at hb) <;> try (exfalso;omega))))
  exact Le.refl _
 | succ f ih=>
  intro a deep h0 h1 hd hf
  have hza:=hz _ (qiw l a.toNat nd0 (by omega))
  have hkl:=hza.lk
  refine zK {} 300 Try.func27 (fun c0 rdb=>?_)
  (repeat' ((conv=>whnf);first|refine Ob.auto ?_|(apply zB <;> intro hb <;> (try simp [-zd] at hb) <;> try (exfalso;omega))))
  ((conv=>whnf);refine qbb (fun _=>rfl) 300 1 (fun g:Nat × Int=>[(9,iv g.1),(8,iv g.2)]) (fun _=>[]) (fun g=>(g.1≤(l.getD a.toNat nd0).kids.length∧0≤g.2)∧walkF l (f+1) a=walkL (walkF l f) l.length ((l.getD a.toNat nd0).kids.drop g.1) g.2) (fun g=>(l.getD a.toNat nd0).kids.length - g.1) ((0,a+1)) (⟨by simp;omega,rfl⟩) qa qa (fun _=>rfl) (by kernel_rfl) ?_;(conv=>whnf))
  rintro ⟨i,next⟩ ⟨⟨hi,hn0⟩,hw⟩
  simp only at hi hw hn0
  have hdr:=fun h=>qpt (l.getD a.toNat nd0).kids i 0 h
  have hge:=qzt l f next hn0
  (repeat' ((conv=>whnf);first|refine Ob.auto ?_|refine zC 300 (ih next (deep+1) (by omega) (by omega) (by omega) (by omega)) ?_|(apply zB <;> intro hb <;> (try simp [-zd] at hb) <;> try (exfalso;omega))))
  ·rw [hdr (by omega),walkL,zb (by omega)] at hw
   rw [hw];exact Le.refl _
  ·rename_i hb1
   rw [hdr (by omega),walkL,za (by omega),zb hb] at hw
   rw [hw,hb];exact Le.refl _
  ·rename_i hb1
   ((conv=>whnf);refine ⟨(i+1,(walkF l f next).1),⟨⟨by simp only;omega,by simp only;omega⟩,by rw [hdr (by omega),walkL,za (by omega),za (by rw [hb];decide)] at hw;exact hw⟩,⟨qa,qa⟩,⟨qa,qa⟩,?_⟩;(first|omega|(dsimp only;omega)|skip))
  ·have:i=(l.getD a.toNat nd0).kids.length:=by omega
   rw [this,List.drop_length,walkL] at hw
   rw [hw];exact Le.refl _
theorem jpl (l:List Nd) (hl:l.length≤9223372036854775807) (hz:∀ n∈l,NdSz n):Con Try.prog 16 [qcv l] (.bool (qdm l)):=by
 by_cases h0:(decide (l.length=0) || decide (800<l.length) || (l.getD 0 nd0).kind != 0)=true
 ·have hr:qdm l=false:=by unfold qdm;rw [h0];rfl
  rw [hr]
  simp only [xh,zo,bne_iff_ne,ne_eq] at h0
  refine zK {} 300 Try.func16 (fun c0 rdb=>?_)
  (repeat' ((conv=>whnf);first|refine Ob.auto ?_|(refine Ob.intro (by ((intro h;simp at h;have:=List.length_pos_iff.2 h.1;exact ⟨by simp [h],by omega,by omega⟩))) ?_)|(apply zB <;> intro hb <;> (try simp [-zd] at hb) <;> try (exfalso;omega))))
  ·exact Le.refl _
  ·exfalso
   have:=List.length_pos_iff.2 hb.1.1
   omega
 ·have h0':(decide (l.length=0) || decide (800<l.length) || (l.getD 0 nd0).kind != 0)=false:=by simpa using h0
  simp only [xh,zo,bne_iff_ne,ne_eq,not_or,Decidable.not_not] at h0
  have hr:qdm l=(((walkF l 20 0).2 && (walkF l 20 0).1 == l.length) && l.all (qaa l)):=by unfold qdm;rw [h0'];rfl
  rw [hr]
  refine zK {} 300 Try.func16 (fun c0 rdb=>?_)
  (repeat' ((conv=>whnf);first|refine Ob.auto ?_|refine zC 300 (jpk l hl hz 20 0 1 (by omega) (by omega) (by omega) (by omega)) ?_|(apply zB <;> intro hb <;> (try simp [-zd] at hb) <;> try (exfalso;omega))))
  ·exfalso;rcases hb with (hb|hb)|hb
   ·rw [hb] at h0;simp at h0
   ·omega
   ·omega
  ·refine Le.of_eq (congrArg AV.bool ?_)
   rcases hb with hb|hb
   ·rw [hb];rfl
   ·rw [show ((walkF l 20 0).1 == (l.length:Int))=false from beq_eq_false_iff_ne.2 hb,Bool.and_false];rfl
  ·have hw:((walkF l 20 0).2 && (walkF l 20 0).1 == (l.length:Int))=true:=by rw [hb.1,hb.2];simp
   have hk:∀ j:Nat,j<l.length→∀ k∈(l.getD j nd0).kids,0≤k∧k<l.length:=fun j hj k hk=>by
    have:=(qhs l 20 0 l.length (zk _) (Prod.ext hb.2 hb.1)).2 j (by omega) (by omega) k hk
    omega
   ((conv=>whnf);refine qbb (fun _=>rfl) 300 1 (fun i:Nat=>[(5,iv i)]) (fun _=>[]) (fun i=>i≤l.length∧∀ j,j<i→qaa l (l.getD j nd0)=true) (fun i=>l.length - i) (0) (⟨by omega,fun j hj=>absurd hj (zv j)⟩) qa qa (fun _=>rfl) (by kernel_rfl) ?_;(conv=>whnf))
   intro i hi
   (repeat' ((conv=>whnf);first|refine Ob.auto ?_|refine zC 300 (jpj l (l.getD i nd0) (hz _ (qiw l i nd0 (by omega))) (hk i (by omega))) ?_|(apply zB <;> intro hb <;> (try simp [-zd] at hb) <;> try (exfalso;omega))))
   ·refine Le.of_eq (congrArg AV.bool ?_)
    rw [hw,qmv (q:=qaa l) nd0 (j:=i) (by omega) hb];rfl
   ·((conv=>whnf);refine ⟨i+1,⟨by omega,qea hi.2 hb⟩,⟨qa,qa⟩,⟨qa,qa⟩,?_⟩;(first|omega|(dsimp only;omega)|skip))
   ·refine Le.of_eq (congrArg AV.bool ?_)
    rw [hw,qmu (q:=qaa l) nd0 (fun j hj=>hi.2 j (by omega))];rfl
def qjo:List Nd→Int→Int
 | [],n=>n
 | x::r,n=>if n≤1500 then qjo r (IntKind.i64.wrap (IntKind.i64.wrap (IntKind.i64.wrap (n+x.words.length)+x.nums.length)+x.kids.length)) else n
theorem jpm (l:List Nd) (hl:l.length≤9223372036854775807):Con Try.prog 14 [qcv l] (.bool (decide (qjo l l.length≤1500))):=by
 refine zK {wraps:=[18,19,20,21,22,23,24,25,26,27,28,29,30,31,32,33,34,35,36,37,38]} 300 Try.func14 (fun c0 rdb=>?_)
 ((conv=>whnf);refine qbb (fun _=>rfl) 300 1 (fun g:Nat × Int=>[(4,iv g.1),(3,iv g.2)]) (fun _=>[]) (fun g=>g.1≤l.length∧qjo l l.length=qjo (l.drop g.1) g.2) (fun g=>l.length - g.1) ((0,(l.length:Int))) (⟨by simp,rfl⟩) qa qa (fun _=>rfl) (by kernel_rfl) ?_;(conv=>whnf))
 rintro ⟨i,n⟩ ⟨hi,hs⟩
 simp only at hi hs
 (repeat' ((conv=>whnf);first|refine zO ?_|refine Ob.auto ?_|(refine zP 300 ?_)|(apply zB <;> intro hb <;> (try simp [-zd] at hb) <;> try (exfalso;omega))))
 ·rw [qpt l i nd0 (by omega),qjo,zb (by omega)] at hs
  ((conv=>whnf);refine ⟨(i+1,IntKind.i64.wrap (IntKind.i64.wrap (IntKind.i64.wrap (n+(l.getD i nd0).words.length)+(l.getD i nd0).nums.length)+(l.getD i nd0).kids.length)),⟨by simp only;omega,hs⟩,⟨qa,qa⟩,⟨qa,qa⟩,?_⟩;(first|omega|(dsimp only;omega)|skip))
 ·refine Le.of_eq (congrArg AV.bool ?_)
  by_cases hl:i<l.length
  ·rw [qpt l i nd0 (by omega),qjo,za (by omega)] at hs
   rw [hs]
  ·obtain rfl:i=l.length:=by omega
   rw [List.drop_length,qjo] at hs
   rw [hs]
end Go.Proofs.Ythfaleaojlnnoaa
end
section
namespace Go.Proofs.Ythfaleaojlnnoaa
open List renaming getD_eq_getElem?_getD → zd
open Go Go.Sx Go.RowKit Go.St Pa
set_option maxRecDepth 100000
set_option maxHeartbeats 4000000
theorem jpn (s:List UInt8):∀ nd∈(qar s).1,∀ w∈nd.words,w.length≤12:=fun nd hm w hw=>by
 by_cases h:(qar s).2.1=0
 ·have hr:=qva h
  have ha:(qar s).1.all (qaa (qar s).1)=true:=by
   unfold qdm at hr
   rw [zf] at hr
   exact hr.2
  have hk:=((jcm s).2 nd hm).2.2
  have hb:=List.all_eq_true.1 ha nd hm
  rw [← qpx _ nd hk] at hb
  unfold qni qg at hb
  rw [zf,zf,zf] at hb
  have hn:=List.all_eq_true.1 hb.1.1.1 w hw
  unfold nameF at hn
  by_cases hl:12<w.length
  ·rw [xw hl] at hn
   simp at hn
  ·omega
 ·rw [qvb h] at hm
  exact absurd hm List.not_mem_nil
theorem jpo (l:List Nd) (hl:l.length≤9223372036854775807) (hz:∀ n∈l,NdSz n) (s:List UInt8):Con Try.prog 4 [qcv l,.str s] (.bool true):=by
 have c1:=jpm l hl
 by_cases hs:s.length≤1500
 ·have h1:=qvc s (by omega)
  have h2:qdm (qar s).1=decide ((qar s).2.1=0):=by
   by_cases h:(qar s).2.1=0
   ·rw [qva h,xw h]
   ·rw [qvb h,zt h];rfl
  have hsz:=jcm s
  have c4:=jcq (qar s).1 (by omega) (fun n hn=>⟨by have:=(hsz.2 n hn).1;omega,by have:=(hsz.2 n hn).2.1;omega,by have:=(hsz.2 n hn).2.2;omega,fun w hw=>by have:=jpn s n hn w hw;omega⟩)
  generalize qar s=R at h1 h2 hsz c4
  obtain ⟨m,e,at_⟩:=R
  simp only at h2 c4
  have c2:=jcq l hl hz
  have c3:=jpl l hl hz
  generalize qdm l=b at c2 c3
  generalize qdm m=b2 at c4 h2
  refine zK {} 300 Try.func4 (fun c0 rdb=>?_)
  (repeat' ((conv=>whnf);first|refine zA ?_|refine zO ?_|refine Ob.auto ?_|refine zC 300 (qel) ?_|refine zG 300 (fun hg=>qel) ?_|(refine CallY.con (qel) (by rfl) leA ?_)|(refine CallZ.con (fun hg=>qel) qn (by rfl) ?_)|refine zC 300 (c1) ?_|refine zG 300 (fun hg=>c1) ?_|(refine CallY.con (c1) (by rfl) leA ?_)|(refine CallZ.con (fun hg=>c1) qn (by rfl) ?_)|(refine ql (fun _=>rfl) 300 (qel) qc (by (repeat' (first|exact trivial|exact Le.refl _|(refine And.intro ?_ ?_))) <;> fail) (by rfl) (by kernel_rfl) ?_)|(refine qp (fun _=>rfl) 300 (fun hg=>qel) (fun hg=>qc) (fun hg=>(by (repeat' (first|exact trivial|exact Le.refl _|exact Le.cnd hg|(refine And.intro ?_ ?_))) <;> fail)) (by rfl) (by kernel_rfl) ?_)|(refine ql (fun _=>rfl) 300 (c1) qc (by (repeat' (first|exact trivial|exact Le.refl _|(refine And.intro ?_ ?_))) <;> fail) (by rfl) (by kernel_rfl) ?_)|(refine qp (fun _=>rfl) 300 (fun hg=>c1) (fun hg=>qc) (fun hg=>(by (repeat' (first|exact trivial|exact Le.refl _|exact Le.cnd hg|(refine And.intro ?_ ?_))) <;> fail)) (by rfl) (by kernel_rfl) ?_)|refine zD 300 ?_|(apply zB <;> intro hb <;> (try simp [-zd] at hb) <;> try (exfalso;omega))|refine Ob.intro ?_ ?_))
  ·exact Le.refl _
  (repeat' ((conv=>whnf);first|refine zA ?_|refine zO ?_|refine Ob.auto ?_|refine zC 300 (h1) ?_|refine zG 300 (fun hg=>h1) ?_|(refine CallY.con (h1) (by rfl) leA ?_)|(refine CallZ.con (fun hg=>h1) qn (by rfl) ?_)|refine zC 300 (c2) ?_|refine zG 300 (fun hg=>c2) ?_|(refine CallY.con (c2) (by rfl) leA ?_)|(refine CallZ.con (fun hg=>c2) qn (by rfl) ?_)|refine zC 300 (c3) ?_|refine zG 300 (fun hg=>c3) ?_|(refine CallY.con (c3) (by rfl) leA ?_)|(refine CallZ.con (fun hg=>c3) qn (by rfl) ?_)|refine zC 300 (c4) ?_|refine zG 300 (fun hg=>c4) ?_|(refine CallY.con (c4) (by rfl) leA ?_)|(refine CallZ.con (fun hg=>c4) qn (by rfl) ?_)|(refine ql (fun _=>rfl) 300 (h1) qc (by (repeat' (first|exact trivial|exact Le.refl _|(refine And.intro ?_ ?_))) <;> fail) (by rfl) (by kernel_rfl) ?_)|(refine qp (fun _=>rfl) 300 (fun hg=>h1) (fun hg=>qc) (fun hg=>(by (repeat' (first|exact trivial|exact Le.refl _|exact Le.cnd hg|(refine And.intro ?_ ?_))) <;> fail)) (by rfl) (by kernel_rfl) ?_)|(refine ql (fun _=>rfl) 300 (c2) qc (by (repeat' (first|exact trivial|exact Le.refl _|(refine And.intro ?_ ?_))) <;> fail) (by rfl) (by kernel_rfl) ?_)|(refine qp (fun _=>rfl) 300 (fun hg=>c2) (fun hg=>qc) (fun hg=>(by (repeat' (first|exact trivial|exact Le.refl _|exact Le.cnd hg|(refine And.intro ?_ ?_))) <;> fail)) (by rfl) (by kernel_rfl) ?_)|(refine ql (fun _=>rfl) 300 (c3) qc (by (repeat' (first|exact trivial|exact Le.refl _|(refine And.intro ?_ ?_))) <;> fail) (by rfl) (by kernel_rfl) ?_)|(refine qp (fun _=>rfl) 300 (fun hg=>c3) (fun hg=>qc) (fun hg=>(by (repeat' (first|exact trivial|exact Le.refl _|exact Le.cnd hg|(refine And.intro ?_ ?_))) <;> fail)) (by rfl) (by kernel_rfl) ?_)|(refine ql (fun _=>rfl) 300 (c4) qc (by (repeat' (first|exact trivial|exact Le.refl _|(refine And.intro ?_ ?_))) <;> fail) (by rfl) (by kernel_rfl) ?_)|(refine qp (fun _=>rfl) 300 (fun hg=>c4) (fun hg=>qc) (fun hg=>(by (repeat' (first|exact trivial|exact Le.refl _|exact Le.cnd hg|(refine And.intro ?_ ?_))) <;> fail)) (by rfl) (by kernel_rfl) ?_)|refine zD 300 ?_|(refine zQ 300 ?_)|(apply zB <;> intro hb <;> (try simp [-zd] at hb) <;> try (exfalso;omega))|refine Ob.intro ?_ ?_))
  ·refine Le.of_eq (congrArg AV.bool ?_)
   rw [h2]
   by_cases he:e=0
   ·subst he;simp
   ·simp [he]
 ·refine zK {} 300 Try.func4 (fun c0 rdb=>?_)
  (repeat' ((conv=>whnf);first|refine zA ?_|refine zO ?_|refine Ob.auto ?_|refine zC 300 (qel) ?_|refine zG 300 (fun hg=>qel) ?_|(refine CallY.con (qel) (by rfl) leA ?_)|(refine CallZ.con (fun hg=>qel) qn (by rfl) ?_)|refine zC 300 (c1) ?_|refine zG 300 (fun hg=>c1) ?_|(refine CallY.con (c1) (by rfl) leA ?_)|(refine CallZ.con (fun hg=>c1) qn (by rfl) ?_)|(refine ql (fun _=>rfl) 300 (qel) qc (by (repeat' (first|exact trivial|exact Le.refl _|(refine And.intro ?_ ?_))) <;> fail) (by rfl) (by kernel_rfl) ?_)|(refine qp (fun _=>rfl) 300 (fun hg=>qel) (fun hg=>qc) (fun hg=>(by (repeat' (first|exact trivial|exact Le.refl _|exact Le.cnd hg|(refine And.intro ?_ ?_))) <;> fail)) (by rfl) (by kernel_rfl) ?_)|(refine ql (fun _=>rfl) 300 (c1) qc (by (repeat' (first|exact trivial|exact Le.refl _|(refine And.intro ?_ ?_))) <;> fail) (by rfl) (by kernel_rfl) ?_)|(refine qp (fun _=>rfl) 300 (fun hg=>c1) (fun hg=>qc) (fun hg=>(by (repeat' (first|exact trivial|exact Le.refl _|exact Le.cnd hg|(refine And.intro ?_ ?_))) <;> fail)) (by rfl) (by kernel_rfl) ?_)|refine zD 300 ?_|(apply zB <;> intro hb <;> (try simp [-zd] at hb) <;> try (exfalso;omega))|refine Ob.intro ?_ ?_))
  all_goals exact Le.refl _
end Go.Proofs.Ythfaleaojlnnoaa
end
