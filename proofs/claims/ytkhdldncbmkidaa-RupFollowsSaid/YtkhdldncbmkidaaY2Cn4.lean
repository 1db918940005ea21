/- Contracts: clauses by the document's answer: what is a literal, what holds, the own form. -/
import Derived.Test.YtkhdldncbmkidaaY24
import Derived.Test.YtkhdldncbmkidaaY22
set_option linter.unusedSimpArgs false
set_option linter.unusedVariables false
namespace Go.Proofs.Ytkhdldncbmkidaa
open List renaming getD_eq_getElem?_getD → zd
open Go Go.Sx Go.RowKit Go.St Go.Cl
set_option maxRecDepth 100000
set_option maxHeartbeats 4000000
theorem qdz (l:Int):Con Try.prog 25 [iv l] (.bool (litB l)):=by
 refine zK {} 300 Try.func25 (fun c0 rdb=>?_)
 (repeat' ((conv=>whnf);first|refine zA ?_|refine zO ?_|refine Ob.auto ?_|refine zD 300 ?_|(apply zB <;> intro hb <;> (try simp [-zd] at hb) <;> try (exfalso;omega))|refine Ob.intro ?_ ?_))
 exact Le.refl _
theorem qwx (l:Int) (h:litB l=true):Con Try.prog 26 [iv l] (iv (absI l)):=by
 have h:=(qag l).1 h
 refine zK {} 300 Try.func26 (fun c0 rdb=>?_)
 (repeat' ((conv=>whnf);first|refine zA ?_|refine zO ?_|refine Ob.auto ?_|refine zI ?_|refine zD 300 ?_|(apply zB <;> intro hb <;> (try simp [-zd] at hb) <;> try (exfalso;omega))|refine Ob.intro ?_ ?_))
 all_goals (refine Le.of_eq (congrArg (AV.int _) ?_);unfold absI;omega)
theorem qwy (c:List Int) (hl:c.length≤1000000):Con Try.prog 16 [ints c] (.bool (rightB c)):=by
 refine zK {} 300 Try.func16 (fun c0 rdb=>?_)
 (repeat' ((conv=>whnf);first|refine zA ?_|refine zO ?_|refine Ob.auto ?_|refine zD 300 ?_|(apply zB <;> intro hb <;> (try simp [-zd] at hb) <;> try (exfalso;omega))|refine Ob.intro ?_ ?_))
 ((conv=>whnf);refine ja (fun _=>rfl) 300 1 (fun i:Nat=>[(3,iv i)]) (fun _=>[]) (fun i=>i≤c.length∧∀ j,j<i→litB (c.getD j 0)=true) (fun i=>c.length - i) (0) (⟨by omega,fun j hj=>absurd hj (zp j)⟩) qa qa (fun _=>rfl) (by kernel_rfl) ?_;(conv=>whnf))
 intro i hi
 (repeat' ((conv=>whnf);first|refine zA ?_|refine zO ?_|refine Ob.auto ?_|refine zI ?_|refine zC 300 (qdz (c.getD i 0)) ?_|refine zG 300 (fun hg=>qdz (c.getD i 0)) ?_|(refine CallY.con (qdz (c.getD i 0)) (by rfl) leA ?_)|(refine CallZ.con (fun hg=>qdz (c.getD i 0)) qf (by rfl) ?_)|(refine qh (fun _=>rfl) 300 (qdz (c.getD i 0)) qd (by (repeat' (first|exact trivial|exact Le.refl _|(refine And.intro ?_ ?_))) <;> fail) (by rfl) (by kernel_rfl) ?_)|(refine qi (fun _=>rfl) 300 (fun hg=>qdz (c.getD i 0)) (fun hg=>qd) (fun hg=>(by (repeat' (first|exact trivial|exact Le.refl _|exact Le.cnd hg|(refine And.intro ?_ ?_))) <;> fail)) (by rfl) (by kernel_rfl) ?_)|refine zD 300 ?_|(apply zB <;> intro hb <;> (try simp [-zd] at hb) <;> try (exfalso;omega))|refine Ob.intro ?_ ?_))
 ·refine Le.of_eq (congrArg AV.bool (Bool.eq_false_iff.2 fun h=>?_).symm)
  rw [List.all_eq_true.1 h _ (qdg c i 0 (by assumption))] at hb
  exact absurd hb (by decide)
 ·((conv=>whnf);refine ⟨i+1,⟨by omega,qer hi.2 hb⟩,⟨qa,qa⟩,⟨qa,qa⟩,?_⟩;(first|omega|(dsimp only;omega)|skip))
 ·refine Le.of_eq (congrArg AV.bool (List.all_eq_true.2 fun x hx=>?_).symm)
  obtain ⟨j,hj,rfl⟩:=List.mem_iff_getElem.1 hx
  rw [← qfr hj]
  exact hi.2 j (by omega)
theorem qmp (x:Int) (c:List Int) (hl:c.length≤1000000):Con Try.prog 65 [iv x,ints c] (.bool (decide (x∈c))):=by
 refine zK {} 300 Try.func65 (fun c0 rdb=>?_)
 (repeat' ((conv=>whnf);first|refine zA ?_|refine zO ?_|refine Ob.auto ?_|refine zD 300 ?_|(apply zB <;> intro hb <;> (try simp [-zd] at hb) <;> try (exfalso;omega))|refine Ob.intro ?_ ?_))
 ((conv=>whnf);refine ja (fun _=>rfl) 300 1 (fun i:Nat=>[(5,iv i)]) (fun _=>[]) (fun i=>i≤c.length∧∀ j,j<i→c.getD j 0≠x) (fun i=>c.length - i) (0) (⟨by omega,fun j hj=>absurd hj (zp j)⟩) qa qa (fun _=>rfl) (by kernel_rfl) ?_;(conv=>whnf))
 intro i hi
 (repeat' ((conv=>whnf);first|refine zA ?_|refine zO ?_|refine Ob.auto ?_|refine zI ?_|refine zD 300 ?_|(apply zB <;> intro hb <;> (try simp [-zd] at hb) <;> try (exfalso;omega))|refine Ob.intro ?_ ?_))
 ·refine Le.of_eq (congrArg AV.bool (xx ?_).symm)
  rw [← hb]
  exact qdg c i 0 (by assumption)
 ·((conv=>whnf);refine ⟨i+1,⟨by omega,qer hi.2 hb⟩,⟨qa,qa⟩,⟨qa,qa⟩,?_⟩;(first|omega|(dsimp only;omega)|skip))
 ·refine Le.of_eq (congrArg AV.bool (zal fun hx=>?_).symm)
  obtain ⟨j,hj,e⟩:=List.mem_iff_getElem.1 hx
  exact hi.2 j (by omega) ((qfr hj).trans e)
theorem qwz {c:List Int} {m:List Bool} (h:∀ j,j<c.length→(litB (c.getD j 0) && isTrue m (c.getD j 0))=false):qcv c m=false:=by
 rw [zbm]
 intro k
 obtain ⟨x,hx,k⟩:=List.any_eq_true.1 k
 obtain ⟨j,hj,rfl⟩:=List.mem_iff_getElem.1 hx
 have:=h j hj
 rw [qfr hj,k] at this
 exact absurd this (by decide)
theorem jhs (c:List Int) (m:List Bool) (hl:c.length≤1000000):Con Try.prog 18 [ints c,qkz m] (.bool (qcv c m)):=by
 refine zK {} 300 Try.func18 (fun c0 rdb=>?_)
 (repeat' ((conv=>whnf);first|refine zA ?_|refine zO ?_|refine Ob.auto ?_|refine zD 300 ?_|(apply zB <;> intro hb <;> (try simp [-zd] at hb) <;> try (exfalso;omega))|refine Ob.intro ?_ ?_))
 ((conv=>whnf);refine ja (fun _=>rfl) 300 1 (fun i:Nat=>[(5,iv i)]) (fun _=>[]) (fun i=>i≤c.length∧∀ j,j<i→(litB (c.getD j 0) && isTrue m (c.getD j 0))=false) (fun i=>c.length - i) (0) (⟨by omega,fun j hj=>absurd hj (zp j)⟩) qa qa (fun _=>rfl) (by kernel_rfl) ?_;(conv=>whnf))
 intro i hi
 by_cases hli:litB (c.getD i 0)=true
 ·have hv:=qwx (c.getD i 0) hli
  have hlit:=(qag _).1 hli
  have ha:1≤absI (c.getD i 0)∧absI (c.getD i 0)≤100000:=by unfold absI;omega
  have hlc:=qdz (c.getD i 0)
  rw [hli] at hlc
  (repeat' ((conv=>whnf);first|refine zA ?_|refine zO ?_|refine Ob.auto ?_|(refine Ob.intro (by (first|exact ⟨by omega,by omega⟩|exact fun h=>⟨h,by show (-9223372036854775808:Int)≤_;omega,by show _≤(9223372036854775807:Int);omega⟩)) ?_)|refine zC 300 (hlc) ?_|refine zG 300 (fun hg=>hlc) ?_|(refine CallY.con (hlc) (by rfl) leA ?_)|(refine CallZ.con (fun hg=>hlc) qf (by rfl) ?_)|refine zC 300 (hv) ?_|refine zG 300 (fun hg=>hv) ?_|(refine CallY.con (hv) (by rfl) leA ?_)|(refine CallZ.con (fun hg=>hv) qf (by rfl) ?_)|(refine qh (fun _=>rfl) 300 (hlc) qd (by (repeat' (first|exact trivial|exact Le.refl _|(refine And.intro ?_ ?_))) <;> fail) (by rfl) (by kernel_rfl) ?_)|(refine qi (fun _=>rfl) 300 (fun hg=>hlc) (fun hg=>qd) (fun hg=>(by (repeat' (first|exact trivial|exact Le.refl _|exact Le.cnd hg|(refine And.intro ?_ ?_))) <;> fail)) (by rfl) (by kernel_rfl) ?_)|(refine qh (fun _=>rfl) 300 (hv) qd (by (repeat' (first|exact trivial|exact Le.refl _|(refine And.intro ?_ ?_))) <;> fail) (by rfl) (by kernel_rfl) ?_)|(refine qi (fun _=>rfl) 300 (fun hg=>hv) (fun hg=>qd) (fun hg=>(by (repeat' (first|exact trivial|exact Le.refl _|exact Le.cnd hg|(refine And.intro ?_ ?_))) <;> fail)) (by rfl) (by kernel_rfl) ?_)|refine zD 300 ?_|(apply zB <;> intro hb <;> (try simp [-zd] at hb) <;> try (exfalso;omega))|refine Ob.intro ?_ ?_))
  ·refine Le.of_eq (congrArg AV.bool (List.any_eq_true.2 ⟨_,qdg c i 0 (by assumption),?_⟩).symm)
   rw [hli,zbc]
   unfold Cl.isTrue
   rw [beq_iff_eq,show (absI (c.getD i 0) - 1).toNat=(absI (c.getD i 0)).toNat - 1 by omega]
   exact hb
  ·have hn:(litB (c.getD i 0) && isTrue m (c.getD i 0))=false:=by
    rw [hli,zbc]
    unfold Cl.isTrue
    rw [beq_eq_false_iff_ne,show (absI (c.getD i 0) - 1).toNat=(absI (c.getD i 0)).toNat - 1 by omega]
    exact hb
   ((conv=>whnf);refine ⟨i+1,⟨by omega,qer hi.2 hn⟩,⟨qa,qa⟩,⟨qa,qa⟩,?_⟩;(first|omega|(dsimp only;omega)|skip))
  ·exact Le.of_eq (congrArg AV.bool (qwz fun j hj=>hi.2 j (by omega)).symm)
 ·have hlf:=zbl _ ▸ hli
  have hlc:=qdz (c.getD i 0)
  rw [hlf] at hlc
  (repeat' ((conv=>whnf);first|refine zA ?_|refine zO ?_|refine Ob.auto ?_|refine zI ?_|refine zC 300 (hlc) ?_|refine zG 300 (fun hg=>hlc) ?_|(refine CallY.con (hlc) (by rfl) leA ?_)|(refine CallZ.con (fun hg=>hlc) qf (by rfl) ?_)|(refine qh (fun _=>rfl) 300 (hlc) qd (by (repeat' (first|exact trivial|exact Le.refl _|(refine And.intro ?_ ?_))) <;> fail) (by rfl) (by kernel_rfl) ?_)|(refine qi (fun _=>rfl) 300 (fun hg=>hlc) (fun hg=>qd) (fun hg=>(by (repeat' (first|exact trivial|exact Le.refl _|exact Le.cnd hg|(refine And.intro ?_ ?_))) <;> fail)) (by rfl) (by kernel_rfl) ?_)|refine zD 300 ?_|(apply zB <;> intro hb <;> (try simp [-zd] at hb) <;> try (exfalso;omega))|refine Ob.intro ?_ ?_))
  ·((conv=>whnf);refine ⟨i+1,⟨by omega,qer hi.2 (by rw [hlf];rfl)⟩,⟨qa,qa⟩,⟨qa,qa⟩,?_⟩;(first|omega|(dsimp only;omega)|skip))
  ·exact Le.of_eq (congrArg AV.bool (qwz fun j hj=>hi.2 j (by omega)).symm)
theorem jht (cs:List (List Int)) (m:List Bool) (hl:cs.length≤1000000) (hm:∀ c∈cs,c.length≤1000000):Con Try.prog 17 [qah cs,qkz m] (.bool (allB cs m)):=by
 refine zK {} 300 Try.func17 (fun c0 rdb=>?_)
 (repeat' ((conv=>whnf);first|refine zA ?_|refine zO ?_|refine Ob.auto ?_|refine zD 300 ?_|(apply zB <;> intro hb <;> (try simp [-zd] at hb) <;> try (exfalso;omega))|refine Ob.intro ?_ ?_))
 ((conv=>whnf);refine ja (fun _=>rfl) 300 1 (fun i:Nat=>[(5,iv i)]) (fun _=>[]) (fun i=>i≤cs.length∧∀ j,j<i→qcv (cs.getD j []) m=true) (fun i=>cs.length - i) (0) (⟨by omega,fun j hj=>absurd hj (zp j)⟩) qa qa (fun _=>rfl) (by kernel_rfl) ?_;(conv=>whnf))
 intro i hi
 by_cases hil:i<cs.length
 ·have hc:=jhs (cs.getD i []) m (hm _ (qdg cs i [] hil))
  (repeat' ((conv=>whnf);first|refine zA ?_|refine zO ?_|refine Ob.auto ?_|refine zI ?_|refine zC 300 (hc) ?_|refine zG 300 (fun hg=>hc) ?_|(refine CallY.con (hc) (by rfl) leA ?_)|(refine CallZ.con (fun hg=>hc) qf (by rfl) ?_)|(refine qh (fun _=>rfl) 300 (hc) qd (by (repeat' (first|exact trivial|exact Le.refl _|(refine And.intro ?_ ?_))) <;> fail) (by rfl) (by kernel_rfl) ?_)|(refine qi (fun _=>rfl) 300 (fun hg=>hc) (fun hg=>qd) (fun hg=>(by (repeat' (first|exact trivial|exact Le.refl _|exact Le.cnd hg|(refine And.intro ?_ ?_))) <;> fail)) (by rfl) (by kernel_rfl) ?_)|refine zD 300 ?_|(apply zB <;> intro hb <;> (try simp [-zd] at hb) <;> try (exfalso;omega))|refine Ob.intro ?_ ?_))
  ·refine Le.of_eq (congrArg AV.bool (Bool.eq_false_iff.2 fun h=>?_).symm)
   rw [List.all_eq_true.1 h _ (qdg cs i [] hil)] at hb
   exact absurd hb (by decide)
  ·((conv=>whnf);refine ⟨i+1,⟨by omega,qer hi.2 hb⟩,⟨qa,qa⟩,⟨qa,qa⟩,?_⟩;(first|omega|(dsimp only;omega)|skip))
 ·(repeat' ((conv=>whnf);first|refine zA ?_|refine zO ?_|refine Ob.auto ?_|refine zI ?_|refine zD 300 ?_|(apply zB <;> intro hb <;> (try simp [-zd] at hb) <;> try (exfalso;omega))|refine Ob.intro ?_ ?_))
  refine Le.of_eq (congrArg AV.bool (List.all_eq_true.2 fun x hx=>?_).symm)
  obtain ⟨j,hj,rfl⟩:=List.mem_iff_getElem.1 hx
  have e:cs.getD j []=cs[j]:=by rw [zd,zb hj];rfl
  rw [← e]
  exact hi.2 j (by omega)
theorem qxa (n:Int) (c:List Int) (k:Nat) (hk:k<c.length):jg n (c.take (k+1))=(if litB (c.getD k 0)=true∧jg n (c.take k)<absI (c.getD k 0) then absI (c.getD k 0) else jg n (c.take k)):=by
 have h:c.take (k+1)=c.take k++[c.getD k 0]:=by
  rw [zav,zd,zb hk];rfl
 unfold jg
 rw [h,List.foldl_append]
 rfl
theorem qxb (cs:List (List Int)) (i:Nat) (hi:i<cs.length):qe (cs.take (i+1))=jg (qe (cs.take i)) (cs.getD i []):=by
 have h:cs.take (i+1)=cs.take i++[cs.getD i []]:=by
  rw [zav,zd,zb hi];rfl
 unfold qe
 rw [h,List.foldl_append]
 rfl
theorem qqp (n:Int) (hn:0≤n∧n≤100000) (c:List Int):0≤jg n c∧jg n c≤100000:=by
 unfold jg
 induction c generalizing n with
 | nil=>exact hn
 | cons l c ih=>
  rw [List.foldl_cons]
  refine ih _ ?_
  split
  ·rename_i h
   have:=(qag l).1 h.1
   unfold absI at *;omega
  ·exact hn
theorem qjc (cs:List (List Int)):0≤qe cs∧qe cs≤100000:=by
 unfold qe
 have:∀ (cs:List (List Int)) (n:Int),0≤n∧n≤100000→0≤cs.foldl jg n∧cs.foldl jg n≤100000:=by
  intro cs
  induction cs with
  | nil=>intro n h;exact h
  | cons c cs ih=>intro n h;rw [List.foldl_cons];exact ih _ (qqp n h c)
 exact this cs 0 ⟨Int.le_refl _,by decide⟩
theorem qxc (cs:List (List Int)) (hl:cs.length≤1000000) (hm:∀ c∈cs,c.length≤1000000):Con Try.prog 12 [qah cs] (iv (qe cs)):=by
 refine zK {} 300 Try.func12 (fun c0 rdb=>?_)
 (repeat' ((conv=>whnf);first|refine zA ?_|refine zO ?_|refine Ob.auto ?_|refine zD 300 ?_|(apply zB <;> intro hb <;> (try simp [-zd] at hb) <;> try (exfalso;omega))|refine Ob.intro ?_ ?_))
 ((conv=>whnf);refine ja (fun _=>rfl) 300 1 (fun i:Nat=>[(4,iv i),(3,iv (qe (cs.take i)))]) (fun _=>[]) (fun i=>i≤cs.length) (fun i=>cs.length - i) (0) (zx _) qa qa (fun _=>rfl) (by kernel_rfl) ?_;(conv=>whnf))
 intro i hi
 by_cases hil:i<cs.length
 ·have hcl:=hm _ (qdg cs i [] hil)
  have hnx:=qxb cs i hil
  have hg:=qjc (cs.take i)
  generalize qe (cs.take i)=G at hnx hg ⊢
  obtain ⟨c,hcc⟩:∃ c,c=cs.getD i []:=⟨_,rfl⟩
  rw [← hcc] at hcl hnx
  (repeat' ((conv=>whnf);first|refine zA ?_|refine zO ?_|refine Ob.auto ?_|refine zI ?_|refine zD 300 ?_|(apply zB <;> intro hb <;> (try simp [-zd] at hb) <;> try (exfalso;omega))|refine Ob.intro ?_ ?_))
  ((conv=>whnf);refine ja (fun _=>rfl) 300 2 (fun k:Nat=>[(5,iv k),(3,iv (jg G (c.take k)))]) (fun _=>[]) (fun k=>k≤c.length) (fun k=>c.length - k) (0) (zx _) qa qa (fun _=>rfl) (by kernel_rfl) ?_;(conv=>whnf))
  intro k hk
  by_cases hkl:k<c.length
  ·have hgn:=qxa G c k hkl
   have hg1:=qqp G hg (c.take k)
   have hlc:=qdz (c.getD k 0)
   rw [hcc] at hlc
   by_cases hli:litB (c.getD k 0)=true
   ·have hv:=qwx (c.getD k 0) hli
    rw [hcc] at hv
    rw [← hcc,hli,hcc] at hlc
    (repeat' ((conv=>whnf);first|refine zA ?_|refine zO ?_|refine Ob.auto ?_|(refine Ob.intro (by (first|exact ⟨by omega,by omega⟩|exact fun _=>⟨by omega,by omega⟩)) ?_)|refine zC 300 (hlc) ?_|refine zG 300 (fun hg=>hlc) ?_|(refine CallY.con (hlc) (by rfl) leA ?_)|(refine CallZ.con (fun hg=>hlc) qf (by rfl) ?_)|refine zC 300 (hv) ?_|refine zG 300 (fun hg=>hv) ?_|(refine CallY.con (hv) (by rfl) leA ?_)|(refine CallZ.con (fun hg=>hv) qf (by rfl) ?_)|(refine qh (fun _=>rfl) 300 (hlc) qd (by (repeat' (first|exact trivial|exact Le.refl _|(refine And.intro ?_ ?_))) <;> fail) (by rfl) (by kernel_rfl) ?_)|(refine qi (fun _=>rfl) 300 (fun hg=>hlc) (fun hg=>qd) (fun hg=>(by (repeat' (first|exact trivial|exact Le.refl _|exact Le.cnd hg|(refine And.intro ?_ ?_))) <;> fail)) (by rfl) (by kernel_rfl) ?_)|(refine qh (fun _=>rfl) 300 (hv) qd (by (repeat' (first|exact trivial|exact Le.refl _|(refine And.intro ?_ ?_))) <;> fail) (by rfl) (by kernel_rfl) ?_)|(refine qi (fun _=>rfl) 300 (fun hg=>hv) (fun hg=>qd) (fun hg=>(by (repeat' (first|exact trivial|exact Le.refl _|exact Le.cnd hg|(refine And.intro ?_ ?_))) <;> fail)) (by rfl) (by kernel_rfl) ?_)|refine zD 300 ?_|(apply zB <;> intro hb <;> (try simp [-zd] at hb) <;> try (exfalso;omega))|refine Ob.intro ?_ ?_))
    ·have e:absI ((cs.getD i []).getD k 0)=jg G (c.take (k+1)):=by rw [hgn,← hcc];exact (za ⟨hli,by rw [← hcc] at hb;exact hb⟩).symm
     rw [e]
     ((conv=>whnf);refine ⟨k+1,by omega,⟨qa,qa⟩,⟨qa,qa⟩,?_⟩;(first|omega|(dsimp only;omega)|skip))
    ·have e:jg G (c.take k)=jg G (c.take (k+1)):=by rw [hgn];exact (ze fun h=>by rw [hcc] at h;rw [← hcc] at h hb;omega).symm
     rw [e]
     ((conv=>whnf);refine ⟨k+1,by omega,⟨qa,qa⟩,⟨qa,qa⟩,?_⟩;(first|omega|(dsimp only;omega)|skip))
    ·exfalso;rw [← hcc] at hb;omega
   ·have hlf:=zbl _ ▸ hli
    rw [← hcc,hlf,hcc] at hlc
    have hno:false=true→Con Try.prog 26 [iv ((cs.getD i []).getD k 0)] (iv 0):=fun h=>absurd h (by decide)
    (repeat' ((conv=>whnf);first|refine zA ?_|refine zO ?_|refine Ob.auto ?_|(refine Ob.intro (by (first|exact ⟨by omega,by omega⟩|exact fun _=>⟨by omega,by omega⟩)) ?_)|refine zC 300 (hlc) ?_|refine zG 300 (fun hg=>hlc) ?_|(refine CallY.con (hlc) (by rfl) leA ?_)|(refine CallZ.con (fun hg=>hlc) qf (by rfl) ?_)|(refine qh (fun _=>rfl) 300 (hlc) qd (by (repeat' (first|exact trivial|exact Le.refl _|(refine And.intro ?_ ?_))) <;> fail) (by rfl) (by kernel_rfl) ?_)|(refine qi (fun _=>rfl) 300 (fun hg=>hlc) (fun hg=>qd) (fun hg=>(by (repeat' (first|exact trivial|exact Le.refl _|exact Le.cnd hg|(refine And.intro ?_ ?_))) <;> fail)) (by rfl) (by kernel_rfl) ?_)|refine zD 300 ?_|(apply zB <;> intro hb <;> (try simp [-zd] at hb) <;> try (exfalso;omega))|refine Ob.intro ?_ ?_))
    ·((conv=>whnf);refine qel (fun _=>rfl) 300 (fun hg=>hno hg) (by rfl) (fun hg=>by repeat' (first|exact trivial|exact Le.refl _|exact Le.cnd hg|(refine And.intro ?_ ?_))) (by kernel_rfl) ?_)
     (repeat' ((conv=>whnf);first|refine zA ?_|refine zO ?_|refine Ob.auto ?_|(refine Ob.intro (by (first|exact ⟨by omega,by omega⟩|exact fun _=>⟨by omega,by omega⟩|exact fun h=>absurd h (by decide))) ?_)|refine zD 300 ?_|(apply zB <;> intro hb <;> (try simp [-zd] at hb) <;> try (exfalso;omega))|refine Ob.intro ?_ ?_))
     have e:jg G (c.take k)=jg G (c.take (k+1)):=by rw [hgn];exact (ze fun h=>hli h.1).symm
     rw [e]
     ((conv=>whnf);refine ⟨k+1,by omega,⟨qa,qa⟩,⟨qa,qa⟩,?_⟩;(first|omega|(dsimp only;omega)|skip))
    ·exfalso;rw [← hcc] at hb;omega
  ·obtain rfl:k=c.length:=by omega
   rw [xk,← hnx]
   (repeat' ((conv=>whnf);first|refine zA ?_|refine zO ?_|refine Ob.auto ?_|refine zI ?_|refine zD 300 ?_|(apply zB <;> intro hb <;> (try simp [-zd] at hb) <;> try (exfalso;omega))|refine Ob.intro ?_ ?_))
   ·exfalso;rw [← hcc] at hb;omega
   ·((conv=>whnf);refine ⟨i+1,by omega,⟨qa,qa⟩,⟨qa,qa⟩,?_⟩;(first|omega|(dsimp only;omega)|skip))
 ·obtain rfl:i=cs.length:=by omega
  rw [xk]
  (repeat' ((conv=>whnf);first|refine zA ?_|refine zO ?_|refine Ob.auto ?_|refine zI ?_|refine zD 300 ?_|(apply zB <;> intro hb <;> (try simp [-zd] at hb) <;> try (exfalso;omega))|refine Ob.intro ?_ ?_))
  exact Le.refl _
end Go.Proofs.Ytkhdldncbmkidaa
