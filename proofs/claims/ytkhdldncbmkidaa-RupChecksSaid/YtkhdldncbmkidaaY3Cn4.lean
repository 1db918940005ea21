/- Contracts: clauses by the document's answer: what is a literal, what holds, the own form. -/
import Derived.Test.YtkhdldncbmkidaaY34
import Derived.Test.YtkhdldncbmkidaaY32
set_option linter.unusedSimpArgs false
set_option linter.unusedVariables false
namespace Go.Proofs.Ytkhdldncbmkidaa
open List renaming getD_eq_getElem?_getD → zd
open Go Go.Sx Go.RowKit Go.St Go.Cl
set_option maxRecDepth 100000
set_option maxHeartbeats 4000000
theorem qef (l:Int):Con Try.prog 25 [iv l] (.bool (litB l)):=by
 refine zK {} 300 Try.func25 (fun c0 rdb=>?_)
 (repeat' ((conv=>whnf);first|refine zA ?_|refine zO ?_|refine Ob.auto ?_|refine zD 300 ?_|(apply zB <;> intro hb <;> (try simp [-zd] at hb) <;> try (exfalso;omega))|refine Ob.intro ?_ ?_))
 exact Le.refl _
theorem qrf (l:Int) (h:litB l=true):Con Try.prog 26 [iv l] (iv (absI l)):=by
 have h:=(jy l).1 h
 refine zK {} 300 Try.func26 (fun c0 rdb=>?_)
 (repeat' ((conv=>whnf);first|refine zA ?_|refine zO ?_|refine Ob.auto ?_|refine zI ?_|refine zD 300 ?_|(apply zB <;> intro hb <;> (try simp [-zd] at hb) <;> try (exfalso;omega))|refine Ob.intro ?_ ?_))
 all_goals (refine Le.of_eq (congrArg (AV.int _) ?_);unfold absI;omega)
theorem qhm (c:List Int) (hl:c.length≤1000000):Con Try.prog 16 [ints c] (.bool (rightB c)):=by
 refine zK {} 300 Try.func16 (fun c0 rdb=>?_)
 (repeat' ((conv=>whnf);first|refine zA ?_|refine zO ?_|refine Ob.auto ?_|refine zD 300 ?_|(apply zB <;> intro hb <;> (try simp [-zd] at hb) <;> try (exfalso;omega))|refine Ob.intro ?_ ?_))
 ((conv=>whnf);refine qw (fun _=>rfl) 300 1 (fun i:Nat=>[(3,iv i)]) (fun _=>[]) (fun i=>i≤c.length∧∀ j,j<i→litB (c.getD j 0)=true) (fun i=>c.length - i) (0) (⟨by omega,fun j hj=>absurd hj (zo j)⟩) qa qa (fun _=>rfl) (by kernel_rfl) ?_;(conv=>whnf))
 intro i hi
 (repeat' ((conv=>whnf);first|refine zA ?_|refine zO ?_|refine Ob.auto ?_|refine zI ?_|refine zC 300 (qef (c.getD i 0)) ?_|refine zG 300 (fun hg=>qef (c.getD i 0)) ?_|(refine CallY.con (qef (c.getD i 0)) (by rfl) leA ?_)|(refine CallZ.con (fun hg=>qef (c.getD i 0)) qf (by rfl) ?_)|(refine qg (fun _=>rfl) 300 (qef (c.getD i 0)) qc (by (repeat' (first|exact trivial|exact Le.refl _|(refine And.intro ?_ ?_))) <;> fail) (by rfl) (by kernel_rfl) ?_)|(refine qi (fun _=>rfl) 300 (fun hg=>qef (c.getD i 0)) (fun hg=>qc) (fun hg=>(by (repeat' (first|exact trivial|exact Le.refl _|exact Le.cnd hg|(refine And.intro ?_ ?_))) <;> fail)) (by rfl) (by kernel_rfl) ?_)|refine zD 300 ?_|(apply zB <;> intro hb <;> (try simp [-zd] at hb) <;> try (exfalso;omega))|refine Ob.intro ?_ ?_))
 ·refine Le.of_eq (congrArg AV.bool (Bool.eq_false_iff.2 fun h=>?_).symm)
  rw [List.all_eq_true.1 h _ (qdc c i 0 (by assumption))] at hb
  exact absurd hb (by decide)
 ·((conv=>whnf);refine ⟨i+1,⟨by omega,qea hi.2 hb⟩,⟨qa,qa⟩,⟨qa,qa⟩,?_⟩;(first|omega|(dsimp only;omega)|skip))
 ·refine Le.of_eq (congrArg AV.bool (List.all_eq_true.2 fun x hx=>?_).symm)
  obtain ⟨j,hj,rfl⟩:=List.mem_iff_getElem.1 hx
  rw [← qga hj]
  exact hi.2 j (by omega)
theorem qhn (x:Int) (c:List Int) (hl:c.length≤1000000):Con Try.prog 65 [iv x,ints c] (.bool (decide (x∈c))):=by
 refine zK {} 300 Try.func65 (fun c0 rdb=>?_)
 (repeat' ((conv=>whnf);first|refine zA ?_|refine zO ?_|refine Ob.auto ?_|refine zD 300 ?_|(apply zB <;> intro hb <;> (try simp [-zd] at hb) <;> try (exfalso;omega))|refine Ob.intro ?_ ?_))
 ((conv=>whnf);refine qw (fun _=>rfl) 300 1 (fun i:Nat=>[(5,iv i)]) (fun _=>[]) (fun i=>i≤c.length∧∀ j,j<i→c.getD j 0≠x) (fun i=>c.length - i) (0) (⟨by omega,fun j hj=>absurd hj (zo j)⟩) qa qa (fun _=>rfl) (by kernel_rfl) ?_;(conv=>whnf))
 intro i hi
 (repeat' ((conv=>whnf);first|refine zA ?_|refine zO ?_|refine Ob.auto ?_|refine zI ?_|refine zD 300 ?_|(apply zB <;> intro hb <;> (try simp [-zd] at hb) <;> try (exfalso;omega))|refine Ob.intro ?_ ?_))
 ·refine Le.of_eq (congrArg AV.bool (xn ?_).symm)
  rw [← hb]
  exact qdc c i 0 (by assumption)
 ·((conv=>whnf);refine ⟨i+1,⟨by omega,qea hi.2 hb⟩,⟨qa,qa⟩,⟨qa,qa⟩,?_⟩;(first|omega|(dsimp only;omega)|skip))
 ·refine Le.of_eq (congrArg AV.bool (xx fun hx=>?_).symm)
  obtain ⟨j,hj,e⟩:=List.mem_iff_getElem.1 hx
  exact hi.2 j (by omega) ((qga hj).trans e)
theorem qxp {c:List Int} {m:List Bool} (h:∀ j,j<c.length→(litB (c.getD j 0) && isTrue m (c.getD j 0))=false):qbq c m=false:=by
 rw [zbo]
 intro k
 obtain ⟨x,hx,k⟩:=List.any_eq_true.1 k
 obtain ⟨j,hj,rfl⟩:=List.mem_iff_getElem.1 hx
 have:=h j hj
 rw [qga hj,k] at this
 exact absurd this (by decide)
theorem jiv (c:List Int) (m:List Bool) (hl:c.length≤1000000):Con Try.prog 18 [ints c,qlp m] (.bool (qbq c m)):=by
 refine zK {} 300 Try.func18 (fun c0 rdb=>?_)
 (repeat' ((conv=>whnf);first|refine zA ?_|refine zO ?_|refine Ob.auto ?_|refine zD 300 ?_|(apply zB <;> intro hb <;> (try simp [-zd] at hb) <;> try (exfalso;omega))|refine Ob.intro ?_ ?_))
 ((conv=>whnf);refine qw (fun _=>rfl) 300 1 (fun i:Nat=>[(5,iv i)]) (fun _=>[]) (fun i=>i≤c.length∧∀ j,j<i→(litB (c.getD j 0) && isTrue m (c.getD j 0))=false) (fun i=>c.length - i) (0) (⟨by omega,fun j hj=>absurd hj (zo j)⟩) qa qa (fun _=>rfl) (by kernel_rfl) ?_;(conv=>whnf))
 intro i hi
 by_cases hli:litB (c.getD i 0)=true
 ·have hv:=qrf (c.getD i 0) hli
  have hlit:=(jy _).1 hli
  have ha:1≤absI (c.getD i 0)∧absI (c.getD i 0)≤100000:=by unfold absI;omega
  have hlc:=qef (c.getD i 0)
  rw [hli] at hlc
  (repeat' ((conv=>whnf);first|refine zA ?_|refine zO ?_|refine Ob.auto ?_|(refine Ob.intro (by (first|exact ⟨by omega,by omega⟩|exact fun h=>⟨h,by show (-9223372036854775808:Int)≤_;omega,by show _≤(9223372036854775807:Int);omega⟩)) ?_)|refine zC 300 (hlc) ?_|refine zG 300 (fun hg=>hlc) ?_|(refine CallY.con (hlc) (by rfl) leA ?_)|(refine CallZ.con (fun hg=>hlc) qf (by rfl) ?_)|refine zC 300 (hv) ?_|refine zG 300 (fun hg=>hv) ?_|(refine CallY.con (hv) (by rfl) leA ?_)|(refine CallZ.con (fun hg=>hv) qf (by rfl) ?_)|(refine qg (fun _=>rfl) 300 (hlc) qc (by (repeat' (first|exact trivial|exact Le.refl _|(refine And.intro ?_ ?_))) <;> fail) (by rfl) (by kernel_rfl) ?_)|(refine qi (fun _=>rfl) 300 (fun hg=>hlc) (fun hg=>qc) (fun hg=>(by (repeat' (first|exact trivial|exact Le.refl _|exact Le.cnd hg|(refine And.intro ?_ ?_))) <;> fail)) (by rfl) (by kernel_rfl) ?_)|(refine qg (fun _=>rfl) 300 (hv) qc (by (repeat' (first|exact trivial|exact Le.refl _|(refine And.intro ?_ ?_))) <;> fail) (by rfl) (by kernel_rfl) ?_)|(refine qi (fun _=>rfl) 300 (fun hg=>hv) (fun hg=>qc) (fun hg=>(by (repeat' (first|exact trivial|exact Le.refl _|exact Le.cnd hg|(refine And.intro ?_ ?_))) <;> fail)) (by rfl) (by kernel_rfl) ?_)|refine zD 300 ?_|(apply zB <;> intro hb <;> (try simp [-zd] at hb) <;> try (exfalso;omega))|refine Ob.intro ?_ ?_))
  ·refine Le.of_eq (congrArg AV.bool (List.any_eq_true.2 ⟨_,qdc c i 0 (by assumption),?_⟩).symm)
   rw [hli,zbc]
   unfold Cl.isTrue
   rw [beq_iff_eq,show (absI (c.getD i 0) - 1).toNat=(absI (c.getD i 0)).toNat - 1 by omega]
   exact hb
  ·have hn:(litB (c.getD i 0) && isTrue m (c.getD i 0))=false:=by
    rw [hli,zbc]
    unfold Cl.isTrue
    rw [beq_eq_false_iff_ne,show (absI (c.getD i 0) - 1).toNat=(absI (c.getD i 0)).toNat - 1 by omega]
    exact hb
   ((conv=>whnf);refine ⟨i+1,⟨by omega,qea hi.2 hn⟩,⟨qa,qa⟩,⟨qa,qa⟩,?_⟩;(first|omega|(dsimp only;omega)|skip))
  ·exact Le.of_eq (congrArg AV.bool (qxp fun j hj=>hi.2 j (by omega)).symm)
 ·have hlf:=zbf _ ▸ hli
  have hlc:=qef (c.getD i 0)
  rw [hlf] at hlc
  (repeat' ((conv=>whnf);first|refine zA ?_|refine zO ?_|refine Ob.auto ?_|refine zI ?_|refine zC 300 (hlc) ?_|refine zG 300 (fun hg=>hlc) ?_|(refine CallY.con (hlc) (by rfl) leA ?_)|(refine CallZ.con (fun hg=>hlc) qf (by rfl) ?_)|(refine qg (fun _=>rfl) 300 (hlc) qc (by (repeat' (first|exact trivial|exact Le.refl _|(refine And.intro ?_ ?_))) <;> fail) (by rfl) (by kernel_rfl) ?_)|(refine qi (fun _=>rfl) 300 (fun hg=>hlc) (fun hg=>qc) (fun hg=>(by (repeat' (first|exact trivial|exact Le.refl _|exact Le.cnd hg|(refine And.intro ?_ ?_))) <;> fail)) (by rfl) (by kernel_rfl) ?_)|refine zD 300 ?_|(apply zB <;> intro hb <;> (try simp [-zd] at hb) <;> try (exfalso;omega))|refine Ob.intro ?_ ?_))
  ·((conv=>whnf);refine ⟨i+1,⟨by omega,qea hi.2 (by rw [hlf];rfl)⟩,⟨qa,qa⟩,⟨qa,qa⟩,?_⟩;(first|omega|(dsimp only;omega)|skip))
  ·exact Le.of_eq (congrArg AV.bool (qxp fun j hj=>hi.2 j (by omega)).symm)
theorem jiw (cs:List (List Int)) (m:List Bool) (hl:cs.length≤1000000) (hm:∀ c∈cs,c.length≤1000000):Con Try.prog 17 [qak cs,qlp m] (.bool (allB cs m)):=by
 refine zK {} 300 Try.func17 (fun c0 rdb=>?_)
 (repeat' ((conv=>whnf);first|refine zA ?_|refine zO ?_|refine Ob.auto ?_|refine zD 300 ?_|(apply zB <;> intro hb <;> (try simp [-zd] at hb) <;> try (exfalso;omega))|refine Ob.intro ?_ ?_))
 ((conv=>whnf);refine qw (fun _=>rfl) 300 1 (fun i:Nat=>[(5,iv i)]) (fun _=>[]) (fun i=>i≤cs.length∧∀ j,j<i→qbq (cs.getD j []) m=true) (fun i=>cs.length - i) (0) (⟨by omega,fun j hj=>absurd hj (zo j)⟩) qa qa (fun _=>rfl) (by kernel_rfl) ?_;(conv=>whnf))
 intro i hi
 by_cases hil:i<cs.length
 ·have hc:=jiv (cs.getD i []) m (hm _ (qdc cs i [] hil))
  (repeat' ((conv=>whnf);first|refine zA ?_|refine zO ?_|refine Ob.auto ?_|refine zI ?_|refine zC 300 (hc) ?_|refine zG 300 (fun hg=>hc) ?_|(refine CallY.con (hc) (by rfl) leA ?_)|(refine CallZ.con (fun hg=>hc) qf (by rfl) ?_)|(refine qg (fun _=>rfl) 300 (hc) qc (by (repeat' (first|exact trivial|exact Le.refl _|(refine And.intro ?_ ?_))) <;> fail) (by rfl) (by kernel_rfl) ?_)|(refine qi (fun _=>rfl) 300 (fun hg=>hc) (fun hg=>qc) (fun hg=>(by (repeat' (first|exact trivial|exact Le.refl _|exact Le.cnd hg|(refine And.intro ?_ ?_))) <;> fail)) (by rfl) (by kernel_rfl) ?_)|refine zD 300 ?_|(apply zB <;> intro hb <;> (try simp [-zd] at hb) <;> try (exfalso;omega))|refine Ob.intro ?_ ?_))
  ·refine Le.of_eq (congrArg AV.bool (Bool.eq_false_iff.2 fun h=>?_).symm)
   rw [List.all_eq_true.1 h _ (qdc cs i [] hil)] at hb
   exact absurd hb (by decide)
  ·((conv=>whnf);refine ⟨i+1,⟨by omega,qea hi.2 hb⟩,⟨qa,qa⟩,⟨qa,qa⟩,?_⟩;(first|omega|(dsimp only;omega)|skip))
 ·(repeat' ((conv=>whnf);first|refine zA ?_|refine zO ?_|refine Ob.auto ?_|refine zI ?_|refine zD 300 ?_|(apply zB <;> intro hb <;> (try simp [-zd] at hb) <;> try (exfalso;omega))|refine Ob.intro ?_ ?_))
  refine Le.of_eq (congrArg AV.bool (List.all_eq_true.2 fun x hx=>?_).symm)
  obtain ⟨j,hj,rfl⟩:=List.mem_iff_getElem.1 hx
  have e:cs.getD j []=cs[j]:=by rw [zd,zb hj];rfl
  rw [← e]
  exact hi.2 j (by omega)
theorem jix (a b:List Int) (hl:a.length≤1000000):Con Try.prog 67 [ints a,ints b] (.bool (a == b)):=by
 refine zK {} 300 Try.func67 (fun c0 rdb=>?_)
 (repeat' ((conv=>whnf);first|refine zA ?_|refine zO ?_|refine Ob.auto ?_|refine zD 300 ?_|(apply zB <;> intro hb <;> (try simp [-zd] at hb) <;> try (exfalso;omega))|refine Ob.intro ?_ ?_))
 ·refine Le.of_eq (congrArg AV.bool (beq_eq_false_iff_ne.2 fun h=>?_).symm)
  rw [h] at hb;exact hb rfl
 have hlen:a.length=b.length:=by omega
 ((conv=>whnf);refine qw (fun _=>rfl) 300 1 (fun i:Nat=>[(5,iv i)]) (fun _=>[]) (fun i=>i≤a.length∧∀ j,j<i→a.getD j 0=b.getD j 0) (fun i=>a.length - i) (0) (⟨by omega,fun j hj=>absurd hj (zo j)⟩) qa qa (fun _=>rfl) (by kernel_rfl) ?_;(conv=>whnf))
 intro i hi
 (repeat' ((conv=>whnf);first|refine zA ?_|refine zO ?_|refine Ob.auto ?_|refine zI ?_|refine zD 300 ?_|(apply zB <;> intro hb <;> (try simp [-zd] at hb) <;> try (exfalso;omega))|refine Ob.intro ?_ ?_))
 ·refine Le.of_eq (congrArg AV.bool (beq_eq_false_iff_ne.2 fun h=>?_).symm)
  rw [h] at hb;exact hb rfl
 ·((conv=>whnf);refine ⟨i+1,⟨by omega,qea hi.2 hb⟩,⟨qa,qa⟩,⟨qa,qa⟩,?_⟩;(first|omega|(dsimp only;omega)|skip))
 ·refine Le.of_eq (congrArg AV.bool (beq_iff_eq.2 ?_).symm)
  exact jfk 0 hlen fun j hj=>hi.2 j (by omega)
theorem jiy (c:List Int) (last:Int) (i:Nat) (hi:i<c.length):qab (c.take (i+1)) last=qbr last (qab (c.take i) last) (c.getD i 0):=by
 have h:c.take (i+1)=c.take i++[c.getD i 0]:=by
  rw [zal,zd,zb hi];rfl
 unfold qab
 rw [h,List.foldl_append]
 rfl
theorem qnd (out:List Int) (v:Int) (k:Nat) (hk:k<out.length+1):appF out.length (encL (fun n=>[iv n]) 0 out) 1 (chop (0+1) [iv v]) k=encL (fun n=>[iv n]) 0 (out++[v]) k:=by
 unfold appF encL
 by_cases h:k<out.length
 ·rw [za h,zd (l:=out++[v]),zn h,← zd]
 ·obtain rfl:k=out.length:=by omega
  rw [ze h,za (by omega),zad,zd (l:=out++[v]),zl (zj _),zad]
  rfl
theorem qxq {n m k:Nat} {f g:Nat→List AV} (h:k<n):appF n f m g k=f k:=by unfold appF;rw [za h]
theorem qxr {n m k:Nat} {f g:Nat→List AV} (h:¬ k<n) (h2:k<n+m):appF n f m g k=g (k - n):=by unfold appF;rw [ze h,za h2]
theorem snoc2 (out:List Int) (v u:Int) (k:Nat) (hk:k<out.length+1+1):appF (out.length+1) (appF out.length (encL (fun n=>[iv n]) 0 out) 1 (chop (0+1) [iv v])) 1 (chop (0+1) [iv u]) k=encL (fun n=>[iv n]) 0 (out++[v]++[u]) k:=by
 have h1:=qnd (out++[v]) u k (by simpa using hk)
 rw [← h1]
 have hl:(out++[v]).length=out.length+1:=by simp
 rw [hl]
 by_cases h:k<out.length+1
 ·rw [qxq h,qxq h,qnd out v k h]
 ·rw [qxr h hk,qxr h hk]
theorem qxs (c:List Int) (hl:c.length≤1000000):Con Try.prog 66 [ints c] (.tup [ints (bif rightB c then normL c else []),.bool (rightB c && qr (normL c))]):=by
 have hc:=qhm c hl
 cases hr:rightB c with
 | false=>
  rw [hr] at hc
  refine zK {owns:=[(4,(3,1))]} 300 Try.func66 (fun c0 rdb=>?_)
  (repeat' ((conv=>whnf);first|refine zA ?_|refine zO ?_|refine Ob.auto ?_|refine zC 300 (hc) ?_|refine zG 300 (fun hg=>hc) ?_|(refine CallY.con (hc) (by rfl) leA ?_)|(refine CallZ.con (fun hg=>hc) qf (by rfl) ?_)|(refine qg (fun _=>rfl) 300 (hc) qc (by (repeat' (first|exact trivial|exact Le.refl _|(refine And.intro ?_ ?_))) <;> fail) (by rfl) (by kernel_rfl) ?_)|(refine qi (fun _=>rfl) 300 (fun hg=>hc) (fun hg=>qc) (fun hg=>(by (repeat' (first|exact trivial|exact Le.refl _|exact Le.cnd hg|(refine And.intro ?_ ?_))) <;> fail)) (by rfl) (by kernel_rfl) ?_)|refine zD 300 ?_|(apply zB <;> intro hb <;> (try simp [-zd] at hb) <;> try (exfalso;omega))|refine Ob.intro ?_ ?_))
  exact Le.tup ⟨Le.nils _ _,Le.refl _,trivial⟩
 | true=>
  rw [hr] at hc
  have hlit:∀ x∈c,litB x=true:=List.all_eq_true.1 hr
  refine zK {owns:=[(4,(3,1))]} 300 Try.func66 (fun c0 rdb=>?_)
  (repeat' ((conv=>whnf);first|refine zA ?_|refine zO ?_|refine Ob.auto ?_|refine zC 300 (hc) ?_|refine zG 300 (fun hg=>hc) ?_|(refine CallY.con (hc) (by rfl) leA ?_)|(refine CallZ.con (fun hg=>hc) qf (by rfl) ?_)|(refine qg (fun _=>rfl) 300 (hc) qc (by (repeat' (first|exact trivial|exact Le.refl _|(refine And.intro ?_ ?_))) <;> fail) (by rfl) (by kernel_rfl) ?_)|(refine qi (fun _=>rfl) 300 (fun hg=>hc) (fun hg=>qc) (fun hg=>(by (repeat' (first|exact trivial|exact Le.refl _|exact Le.cnd hg|(refine And.intro ?_ ?_))) <;> fail)) (by rfl) (by kernel_rfl) ?_)|refine zD 300 ?_|(apply zB <;> intro hb <;> (try simp [-zd] at hb) <;> try (exfalso;omega))|refine Ob.intro ?_ ?_))
  ((conv=>whnf);refine qw (fun _=>rfl) 300 1 (fun g:List Int × Bool × Int=>[(6,iv g.2.2),(5,.bool g.2.1),(4,.own 0 0 0 g.1.length)]) (fun g=>[(0,.row [] 3 1 0 g.1.length (encL (fun n=>[iv n]) 0 g.1))]) (fun g=>NInv c g.2.2 g.1 g.2.1∧(g.1.length:Int)≤2 * g.2.2) (fun g=>(100000 - g.2.2).toNat) (([],false,0)) (⟨ninv0 hr,Int.le_refl 0⟩) qa ⟨jel (fun k hk=>absurd hk (zo k)),trivial⟩ (fun _=>rfl) (by kernel_rfl) ?_;(conv=>whnf))
  rintro ⟨out,idle,last⟩ ⟨hI,hol⟩
  dsimp only at hol
  (repeat' ((conv=>whnf);first|refine zA ?_|refine zO ?_|refine Ob.auto ?_|refine zD 300 ?_|(apply zB <;> intro hb <;> (try simp [-zd] at hb) <;> try (exfalso;omega))|refine Ob.intro ?_ ?_))
  ((conv=>whnf);refine qw (fun _=>rfl) 300 2 (fun i:Nat=>[(8,iv i),(7,iv (qab (c.take i) last))]) (fun _=>[]) (fun i=>i≤c.length) (fun i=>c.length - i) (0) (zv _) qa qa (fun _=>rfl) (by kernel_rfl) ?_;(conv=>whnf))
  intro i hi
  by_cases hil:i<c.length
  ·have hv:=qrf (c.getD i 0) (hlit _ (qdc c i 0 hil))
   have hnx:=jiy c last i hil
   (repeat' ((conv=>whnf);first|refine zA ?_|refine zO ?_|refine Ob.auto ?_|refine zI ?_|refine zC 300 (hv) ?_|refine zG 300 (fun hg=>hv) ?_|(refine CallY.con (hv) (by rfl) leA ?_)|(refine CallZ.con (fun hg=>hv) qf (by rfl) ?_)|(refine qg (fun _=>rfl) 300 (hv) qc (by (repeat' (first|exact trivial|exact Le.refl _|(refine And.intro ?_ ?_))) <;> fail) (by rfl) (by kernel_rfl) ?_)|(refine qi (fun _=>rfl) 300 (fun hg=>hv) (fun hg=>qc) (fun hg=>(by (repeat' (first|exact trivial|exact Le.refl _|exact Le.cnd hg|(refine And.intro ?_ ?_))) <;> fail)) (by rfl) (by kernel_rfl) ?_)|refine zD 300 ?_|(apply zB <;> intro hb <;> (try simp [-zd] at hb) <;> try (exfalso;omega))|refine Ob.intro ?_ ?_))
   ·have e:qab (c.take (i+1)) last=absI (c.getD i 0):=by rw [hnx];exact za hb
    rw [← e]
    ((conv=>whnf);refine ⟨i+1,by omega,⟨qa,qa⟩,⟨qa,qa⟩,?_⟩;(first|omega|(dsimp only;omega)|skip))
   ·have e:qab (c.take (i+1)) last=qab (c.take i) last:=by
     rw [hnx]
     exact ze fun h=>by have:=hb h.1;omega
    rw [← e]
    ((conv=>whnf);refine ⟨i+1,by omega,⟨qa,qa⟩,⟨qa,qa⟩,?_⟩;(first|omega|(dsimp only;omega)|skip))
  ·obtain rfl:i=c.length:=by omega
   rw [xi]
   by_cases hv0:qab c last=0
   ·obtain ⟨e1,e2⟩:=jfs hr hI hv0
    (repeat' ((conv=>whnf);first|refine zA ?_|refine zO ?_|refine Ob.auto ?_|refine zI ?_|refine zD 300 ?_|(apply zB <;> intro hb <;> (try simp [-zd] at hb) <;> try (exfalso;omega))|refine Ob.intro ?_ ?_))
    refine Le.tup ⟨Le.slc (congrArg List.length e1) fun k hk=>?_,Le.of_eq (congrArg AV.bool e2),trivial⟩
    show encL (fun n=>[iv n]) 0 out k=encL (fun n=>[iv n]) 0 (normL c) k
    rw [show out=normL c from e1]
   ·have hnext:=jfr hr hI hv0
    obtain ⟨hp,⟨y,hy,hy2⟩,_⟩:=qva hI.lst.1 hv0
    have hyl:=(jy y).1 (hlit y hy)
    have h0:=hI.lst
    have hvb:0<qab c last∧qab c last≤100000:=by unfold absI at hy2;dsimp only at h0 hp hy2 ⊢;omega
    dsimp only at hnext hv0 hvb ⊢
    generalize hvv:qab c last=v at hnext hv0 hvb ⊢
    have c1:=qhn v c hl
    have c2:Con Try.prog 65 [iv (0 - v),ints c] (.bool (decide (-v∈c))):=by rw [Int.zero_sub];exact qhn (-v) c hl
    have hlv:last<v:=by dsimp only at hp;rw [hvv] at hp;exact hp
    have h0:0≤last∧last≤100000:=h0
    by_cases hvc:v∈c
    ·rw [xn hvc] at c1
     (repeat' ((conv=>whnf);first|refine zA ?_|refine zO ?_|refine Ob.auto ?_|refine zI ?_|refine zD 300 ?_|(apply zB <;> intro hb <;> (try simp [-zd] at hb) <;> try (exfalso;omega))|refine Ob.intro ?_ ?_))
     ((conv=>whnf);refine jl (fun _=>rfl) 300 (c1) (by rfl) leA (by kernel_rfl) ?_)
     (repeat' ((conv=>whnf);first|refine zA ?_|refine zO ?_|refine Ob.auto ?_|(refine Ob.intro (by (first|exact ⟨by omega,by omega⟩|exact ⟨⟨rfl,rfl⟩,by omega,show (_+1) * 8≤140737488355328 by omega⟩)) ?_)|refine zD 300 ?_|(apply zB <;> intro hb <;> (try simp [-zd] at hb) <;> try (exfalso;omega))|refine Ob.intro ?_ ?_))
     by_cases hnc:-v∈c
     ·rw [xn hnc] at c2
      have e1:ji c v out=out++[v]++[0 - v]:=by unfold ji add1;rw [za hvc,za hnc,← Int.zero_sub]
      have e2:(idle || true && true)=qbu c v idle:=by unfold qbu;rw [xn hvc,xn hnc]
      ((conv=>whnf);refine jl (fun _=>rfl) 300 (c2) (by rfl) leA (by kernel_rfl) ?_)
      (repeat' ((conv=>whnf);first|refine zA ?_|refine zO ?_|refine Ob.auto ?_|(refine Ob.intro (by (first|exact ⟨by omega,by omega⟩|exact ⟨⟨rfl,rfl⟩,by omega,show (_+1) * 8≤140737488355328 by omega⟩)) ?_)|refine zD 300 ?_|(apply zB <;> intro hb <;> (try simp [-zd] at hb) <;> try (exfalso;omega))|refine Ob.intro ?_ ?_))
      ((conv=>whnf);refine qbg (fun _=>rfl) 300 (fun _=>c1) (by rfl) (fun hg=>by repeat' (first|exact trivial|exact Le.refl _|exact Le.cnd hg|(refine And.intro ?_ ?_))) (by kernel_rfl) ?_)
      (repeat' ((conv=>whnf);first|refine zA ?_|refine zO ?_|refine Ob.auto ?_|(refine Ob.intro (by (first|exact ⟨by omega,by omega⟩|exact fun _=>⟨by omega,by omega⟩)) ?_)|refine zD 300 ?_|(apply zB <;> intro hb <;> (try simp [-zd] at hb) <;> try (exfalso;omega))|refine Ob.intro ?_ ?_))
      ((conv=>whnf);refine qbg (fun _=>rfl) 300 (fun _=>c2) (by rfl) (fun hg=>by repeat' (first|exact trivial|exact Le.refl _|exact Le.cnd hg|(refine And.intro ?_ ?_))) (by kernel_rfl) ?_)
      (repeat' ((conv=>whnf);first|refine zA ?_|refine zO ?_|refine Ob.auto ?_|(refine Ob.intro (by (first|exact ⟨by omega,by omega⟩|exact fun _=>⟨by omega,by omega⟩)) ?_)|refine zD 300 ?_|(apply zB <;> intro hb <;> (try simp [-zd] at hb) <;> try (exfalso;omega))|refine Ob.intro ?_ ?_))
      ((conv=>whnf);refine ⟨(ji c v out,qbu c v idle,v),⟨hnext,by show ((ji c v out).length:Int)≤2 * v;rw [e1];(try simp);omega⟩,⟨⟨Le.refl _,Le.of_eq (congrArg AV.bool e2),Le.of_eq (congrArg (AV.own 0 0 0) (by show _=(ji c v out).length;rw [e1];(try simp))),trivial⟩,⟨⟨⟨rfl,rfl,rfl⟩,rfl,by show _=(ji c v out).length;rw [e1];(try simp),fun k hk=>LeL.of_eq (by show _=encL (fun n=>[iv n]) 0 (ji c v out) k;rw [e1];exact snoc2 out v (0 - v) k hk)⟩,trivial⟩⟩,⟨qa,qa⟩,?_⟩;(first|omega|(dsimp only;omega)|skip))
     ·rw [xx hnc] at c2
      have e1:ji c v out=out++[v]:=by unfold ji add1;rw [za hvc,ze hnc]
      have e2:(idle || true && false)=qbu c v idle:=by unfold qbu;rw [xn hvc,xx hnc]
      ((conv=>whnf);refine jl (fun _=>rfl) 300 (c2) (by rfl) leA (by kernel_rfl) ?_)
      (repeat' ((conv=>whnf);first|refine zA ?_|refine zO ?_|refine Ob.auto ?_|(refine Ob.intro (by (first|exact ⟨by omega,by omega⟩|exact ⟨⟨rfl,rfl⟩,by omega,show (_+1) * 8≤140737488355328 by omega⟩)) ?_)|refine zD 300 ?_|(apply zB <;> intro hb <;> (try simp [-zd] at hb) <;> try (exfalso;omega))|refine Ob.intro ?_ ?_))
      ((conv=>whnf);refine qbg (fun _=>rfl) 300 (fun _=>c1) (by rfl) (fun hg=>by repeat' (first|exact trivial|exact Le.refl _|exact Le.cnd hg|(refine And.intro ?_ ?_))) (by kernel_rfl) ?_)
      (repeat' ((conv=>whnf);first|refine zA ?_|refine zO ?_|refine Ob.auto ?_|(refine Ob.intro (by (first|exact ⟨by omega,by omega⟩|exact fun _=>⟨by omega,by omega⟩)) ?_)|refine zD 300 ?_|(apply zB <;> intro hb <;> (try simp [-zd] at hb) <;> try (exfalso;omega))|refine Ob.intro ?_ ?_))
      ((conv=>whnf);refine qbg (fun _=>rfl) 300 (fun _=>c2) (by rfl) (fun hg=>by repeat' (first|exact trivial|exact Le.refl _|exact Le.cnd hg|(refine And.intro ?_ ?_))) (by kernel_rfl) ?_)
      (repeat' ((conv=>whnf);first|refine zA ?_|refine zO ?_|refine Ob.auto ?_|(refine Ob.intro (by (first|exact ⟨by omega,by omega⟩|exact fun _=>⟨by omega,by omega⟩)) ?_)|refine zD 300 ?_|(apply zB <;> intro hb <;> (try simp [-zd] at hb) <;> try (exfalso;omega))|refine Ob.intro ?_ ?_))
      ((conv=>whnf);refine ⟨(ji c v out,qbu c v idle,v),⟨hnext,by show ((ji c v out).length:Int)≤2 * v;rw [e1];(try simp);omega⟩,⟨⟨Le.refl _,Le.of_eq (congrArg AV.bool e2),Le.of_eq (congrArg (AV.own 0 0 0) (by show _=(ji c v out).length;rw [e1];(try simp))),trivial⟩,⟨⟨⟨rfl,rfl,rfl⟩,rfl,by show _=(ji c v out).length;rw [e1];(try simp),fun k hk=>LeL.of_eq (by show _=encL (fun n=>[iv n]) 0 (ji c v out) k;rw [e1];exact qnd out v k hk)⟩,trivial⟩⟩,⟨qa,qa⟩,?_⟩;(first|omega|(dsimp only;omega)|skip))
    ·rw [xx hvc] at c1
     (repeat' ((conv=>whnf);first|refine zA ?_|refine zO ?_|refine Ob.auto ?_|refine zI ?_|refine zD 300 ?_|(apply zB <;> intro hb <;> (try simp [-zd] at hb) <;> try (exfalso;omega))|refine Ob.intro ?_ ?_))
     ((conv=>whnf);refine jl (fun _=>rfl) 300 (c1) (by rfl) leA (by kernel_rfl) ?_)
     (repeat' ((conv=>whnf);first|refine zA ?_|refine zO ?_|refine Ob.auto ?_|(refine Ob.intro (by (first|exact ⟨by omega,by omega⟩|exact ⟨⟨rfl,rfl⟩,by omega,show (_+1) * 8≤140737488355328 by omega⟩)) ?_)|refine zD 300 ?_|(apply zB <;> intro hb <;> (try simp [-zd] at hb) <;> try (exfalso;omega))|refine Ob.intro ?_ ?_))
     by_cases hnc:-v∈c
     ·rw [xn hnc] at c2
      have e1:ji c v out=out++[0 - v]:=by unfold ji add1;rw [ze hvc,za hnc,← Int.zero_sub]
      have e2:(idle || false && true)=qbu c v idle:=by unfold qbu;rw [xx hvc,xn hnc]
      ((conv=>whnf);refine jl (fun _=>rfl) 300 (c2) (by rfl) leA (by kernel_rfl) ?_)
      (repeat' ((conv=>whnf);first|refine zA ?_|refine zO ?_|refine Ob.auto ?_|(refine Ob.intro (by (first|exact ⟨by omega,by omega⟩|exact ⟨⟨rfl,rfl⟩,by omega,show (_+1) * 8≤140737488355328 by omega⟩)) ?_)|refine zD 300 ?_|(apply zB <;> intro hb <;> (try simp [-zd] at hb) <;> try (exfalso;omega))|refine Ob.intro ?_ ?_))
      ((conv=>whnf);refine qbg (fun _=>rfl) 300 (fun _=>c1) (by rfl) (fun hg=>by repeat' (first|exact trivial|exact Le.refl _|exact Le.cnd hg|(refine And.intro ?_ ?_))) (by kernel_rfl) ?_)
      (repeat' ((conv=>whnf);first|refine zA ?_|refine zO ?_|refine Ob.auto ?_|(refine Ob.intro (by (first|exact ⟨by omega,by omega⟩|exact fun _=>⟨by omega,by omega⟩)) ?_)|refine zD 300 ?_|(apply zB <;> intro hb <;> (try simp [-zd] at hb) <;> try (exfalso;omega))|refine Ob.intro ?_ ?_))
      ((conv=>whnf);refine qbg (fun _=>rfl) 300 (fun _=>c2) (by rfl) (fun hg=>by repeat' (first|exact trivial|exact Le.refl _|exact Le.cnd hg|(refine And.intro ?_ ?_))) (by kernel_rfl) ?_)
      (repeat' ((conv=>whnf);first|refine zA ?_|refine zO ?_|refine Ob.auto ?_|(refine Ob.intro (by (first|exact ⟨by omega,by omega⟩|exact fun _=>⟨by omega,by omega⟩)) ?_)|refine zD 300 ?_|(apply zB <;> intro hb <;> (try simp [-zd] at hb) <;> try (exfalso;omega))|refine Ob.intro ?_ ?_))
      ((conv=>whnf);refine ⟨(ji c v out,qbu c v idle,v),⟨hnext,by show ((ji c v out).length:Int)≤2 * v;rw [e1];(try simp);omega⟩,⟨⟨Le.refl _,Le.of_eq (congrArg AV.bool e2),Le.of_eq (congrArg (AV.own 0 0 0) (by show _=(ji c v out).length;rw [e1];(try simp))),trivial⟩,⟨⟨⟨rfl,rfl,rfl⟩,rfl,by show _=(ji c v out).length;rw [e1];(try simp),fun k hk=>LeL.of_eq (by show _=encL (fun n=>[iv n]) 0 (ji c v out) k;rw [e1];exact qnd out (0 - v) k hk)⟩,trivial⟩⟩,⟨qa,qa⟩,?_⟩;(first|omega|(dsimp only;omega)|skip))
     ·rw [xx hnc] at c2
      have e1:ji c v out=out:=by unfold ji add1;rw [ze hvc,ze hnc]
      have e2:(idle || false && false)=qbu c v idle:=by unfold qbu;rw [xx hvc,xx hnc]
      ((conv=>whnf);refine jl (fun _=>rfl) 300 (c2) (by rfl) leA (by kernel_rfl) ?_)
      (repeat' ((conv=>whnf);first|refine zA ?_|refine zO ?_|refine Ob.auto ?_|(refine Ob.intro (by (first|exact ⟨by omega,by omega⟩|exact ⟨⟨rfl,rfl⟩,by omega,show (_+1) * 8≤140737488355328 by omega⟩)) ?_)|refine zD 300 ?_|(apply zB <;> intro hb <;> (try simp [-zd] at hb) <;> try (exfalso;omega))|refine Ob.intro ?_ ?_))
      ((conv=>whnf);refine qbg (fun _=>rfl) 300 (fun _=>c1) (by rfl) (fun hg=>by repeat' (first|exact trivial|exact Le.refl _|exact Le.cnd hg|(refine And.intro ?_ ?_))) (by kernel_rfl) ?_)
      (repeat' ((conv=>whnf);first|refine zA ?_|refine zO ?_|refine Ob.auto ?_|(refine Ob.intro (by (first|exact ⟨by omega,by omega⟩|exact fun _=>⟨by omega,by omega⟩)) ?_)|refine zD 300 ?_|(apply zB <;> intro hb <;> (try simp [-zd] at hb) <;> try (exfalso;omega))|refine Ob.intro ?_ ?_))
      ((conv=>whnf);refine qbg (fun _=>rfl) 300 (fun _=>c2) (by rfl) (fun hg=>by repeat' (first|exact trivial|exact Le.refl _|exact Le.cnd hg|(refine And.intro ?_ ?_))) (by kernel_rfl) ?_)
      (repeat' ((conv=>whnf);first|refine zA ?_|refine zO ?_|refine Ob.auto ?_|(refine Ob.intro (by (first|exact ⟨by omega,by omega⟩|exact fun _=>⟨by omega,by omega⟩)) ?_)|refine zD 300 ?_|(apply zB <;> intro hb <;> (try simp [-zd] at hb) <;> try (exfalso;omega))|refine Ob.intro ?_ ?_))
      ((conv=>whnf);refine ⟨(ji c v out,qbu c v idle,v),⟨hnext,by show ((ji c v out).length:Int)≤2 * v;rw [e1];(try simp);omega⟩,⟨⟨Le.refl _,Le.of_eq (congrArg AV.bool e2),Le.of_eq (congrArg (AV.own 0 0 0) (by show _=(ji c v out).length;rw [e1];(try simp))),trivial⟩,⟨⟨⟨rfl,rfl,rfl⟩,rfl,by show _=(ji c v out).length;rw [e1];(try simp),fun k hk=>LeL.of_eq (by show _=encL (fun n=>[iv n]) 0 (ji c v out) k;rw [e1])⟩,trivial⟩⟩,⟨qa,qa⟩,?_⟩;(first|omega|(dsimp only;omega)|skip))
theorem qxt (n:Int) (c:List Int) (k:Nat) (hk:k<c.length):jh n (c.take (k+1))=(if litB (c.getD k 0)=true∧jh n (c.take k)<absI (c.getD k 0) then absI (c.getD k 0) else jh n (c.take k)):=by
 have h:c.take (k+1)=c.take k++[c.getD k 0]:=by
  rw [zal,zd,zb hk];rfl
 unfold jh
 rw [h,List.foldl_append]
 rfl
theorem qxu (cs:List (List Int)) (i:Nat) (hi:i<cs.length):qe (cs.take (i+1))=jh (qe (cs.take i)) (cs.getD i []):=by
 have h:cs.take (i+1)=cs.take i++[cs.getD i []]:=by
  rw [zal,zd,zb hi];rfl
 unfold qe
 rw [h,List.foldl_append]
 rfl
theorem qrg (n:Int) (hn:0≤n∧n≤100000) (c:List Int):0≤jh n c∧jh n c≤100000:=by
 unfold jh
 induction c generalizing n with
 | nil=>exact hn
 | cons l c ih=>
  rw [List.foldl_cons]
  refine ih _ ?_
  split
  ·rename_i h
   have:=(jy l).1 h.1
   unfold absI at *;omega
  ·exact hn
theorem qjq (cs:List (List Int)):0≤qe cs∧qe cs≤100000:=by
 unfold qe
 have:∀ (cs:List (List Int)) (n:Int),0≤n∧n≤100000→0≤cs.foldl jh n∧cs.foldl jh n≤100000:=by
  intro cs
  induction cs with
  | nil=>intro n h;exact h
  | cons c cs ih=>intro n h;rw [List.foldl_cons];exact ih _ (qrg n h c)
 exact this cs 0 ⟨Int.le_refl _,by decide⟩
theorem qxv (cs:List (List Int)) (hl:cs.length≤1000000) (hm:∀ c∈cs,c.length≤1000000):Con Try.prog 12 [qak cs] (iv (qe cs)):=by
 refine zK {} 300 Try.func12 (fun c0 rdb=>?_)
 (repeat' ((conv=>whnf);first|refine zA ?_|refine zO ?_|refine Ob.auto ?_|refine zD 300 ?_|(apply zB <;> intro hb <;> (try simp [-zd] at hb) <;> try (exfalso;omega))|refine Ob.intro ?_ ?_))
 ((conv=>whnf);refine qw (fun _=>rfl) 300 1 (fun i:Nat=>[(4,iv i),(3,iv (qe (cs.take i)))]) (fun _=>[]) (fun i=>i≤cs.length) (fun i=>cs.length - i) (0) (zv _) qa qa (fun _=>rfl) (by kernel_rfl) ?_;(conv=>whnf))
 intro i hi
 by_cases hil:i<cs.length
 ·have hcl:=hm _ (qdc cs i [] hil)
  have hnx:=qxu cs i hil
  have hg:=qjq (cs.take i)
  generalize qe (cs.take i)=G at hnx hg ⊢
  obtain ⟨c,hcc⟩:∃ c,c=cs.getD i []:=⟨_,rfl⟩
  rw [← hcc] at hcl hnx
  (repeat' ((conv=>whnf);first|refine zA ?_|refine zO ?_|refine Ob.auto ?_|refine zI ?_|refine zD 300 ?_|(apply zB <;> intro hb <;> (try simp [-zd] at hb) <;> try (exfalso;omega))|refine Ob.intro ?_ ?_))
  ((conv=>whnf);refine qw (fun _=>rfl) 300 2 (fun k:Nat=>[(5,iv k),(3,iv (jh G (c.take k)))]) (fun _=>[]) (fun k=>k≤c.length) (fun k=>c.length - k) (0) (zv _) qa qa (fun _=>rfl) (by kernel_rfl) ?_;(conv=>whnf))
  intro k hk
  by_cases hkl:k<c.length
  ·have hgn:=qxt G c k hkl
   have hg1:=qrg G hg (c.take k)
   have hlc:=qef (c.getD k 0)
   rw [hcc] at hlc
   by_cases hli:litB (c.getD k 0)=true
   ·have hv:=qrf (c.getD k 0) hli
    rw [hcc] at hv
    rw [← hcc,hli,hcc] at hlc
    (repeat' ((conv=>whnf);first|refine zA ?_|refine zO ?_|refine Ob.auto ?_|(refine Ob.intro (by (first|exact ⟨by omega,by omega⟩|exact fun _=>⟨by omega,by omega⟩)) ?_)|refine zC 300 (hlc) ?_|refine zG 300 (fun hg=>hlc) ?_|(refine CallY.con (hlc) (by rfl) leA ?_)|(refine CallZ.con (fun hg=>hlc) qf (by rfl) ?_)|refine zC 300 (hv) ?_|refine zG 300 (fun hg=>hv) ?_|(refine CallY.con (hv) (by rfl) leA ?_)|(refine CallZ.con (fun hg=>hv) qf (by rfl) ?_)|(refine qg (fun _=>rfl) 300 (hlc) qc (by (repeat' (first|exact trivial|exact Le.refl _|(refine And.intro ?_ ?_))) <;> fail) (by rfl) (by kernel_rfl) ?_)|(refine qi (fun _=>rfl) 300 (fun hg=>hlc) (fun hg=>qc) (fun hg=>(by (repeat' (first|exact trivial|exact Le.refl _|exact Le.cnd hg|(refine And.intro ?_ ?_))) <;> fail)) (by rfl) (by kernel_rfl) ?_)|(refine qg (fun _=>rfl) 300 (hv) qc (by (repeat' (first|exact trivial|exact Le.refl _|(refine And.intro ?_ ?_))) <;> fail) (by rfl) (by kernel_rfl) ?_)|(refine qi (fun _=>rfl) 300 (fun hg=>hv) (fun hg=>qc) (fun hg=>(by (repeat' (first|exact trivial|exact Le.refl _|exact Le.cnd hg|(refine And.intro ?_ ?_))) <;> fail)) (by rfl) (by kernel_rfl) ?_)|refine zD 300 ?_|(apply zB <;> intro hb <;> (try simp [-zd] at hb) <;> try (exfalso;omega))|refine Ob.intro ?_ ?_))
    ·have e:absI ((cs.getD i []).getD k 0)=jh G (c.take (k+1)):=by rw [hgn,← hcc];exact (za ⟨hli,by rw [← hcc] at hb;exact hb⟩).symm
     rw [e]
     ((conv=>whnf);refine ⟨k+1,by omega,⟨qa,qa⟩,⟨qa,qa⟩,?_⟩;(first|omega|(dsimp only;omega)|skip))
    ·have e:jh G (c.take k)=jh G (c.take (k+1)):=by rw [hgn];exact (ze fun h=>by rw [hcc] at h;rw [← hcc] at h hb;omega).symm
     rw [e]
     ((conv=>whnf);refine ⟨k+1,by omega,⟨qa,qa⟩,⟨qa,qa⟩,?_⟩;(first|omega|(dsimp only;omega)|skip))
    ·exfalso;rw [← hcc] at hb;omega
   ·have hlf:=zbf _ ▸ hli
    rw [← hcc,hlf,hcc] at hlc
    have hno:false=true→Con Try.prog 26 [iv ((cs.getD i []).getD k 0)] (iv 0):=fun h=>absurd h (by decide)
    (repeat' ((conv=>whnf);first|refine zA ?_|refine zO ?_|refine Ob.auto ?_|(refine Ob.intro (by (first|exact ⟨by omega,by omega⟩|exact fun _=>⟨by omega,by omega⟩)) ?_)|refine zC 300 (hlc) ?_|refine zG 300 (fun hg=>hlc) ?_|(refine CallY.con (hlc) (by rfl) leA ?_)|(refine CallZ.con (fun hg=>hlc) qf (by rfl) ?_)|(refine qg (fun _=>rfl) 300 (hlc) qc (by (repeat' (first|exact trivial|exact Le.refl _|(refine And.intro ?_ ?_))) <;> fail) (by rfl) (by kernel_rfl) ?_)|(refine qi (fun _=>rfl) 300 (fun hg=>hlc) (fun hg=>qc) (fun hg=>(by (repeat' (first|exact trivial|exact Le.refl _|exact Le.cnd hg|(refine And.intro ?_ ?_))) <;> fail)) (by rfl) (by kernel_rfl) ?_)|refine zD 300 ?_|(apply zB <;> intro hb <;> (try simp [-zd] at hb) <;> try (exfalso;omega))|refine Ob.intro ?_ ?_))
    ·((conv=>whnf);refine qbg (fun _=>rfl) 300 (fun hg=>hno hg) (by rfl) (fun hg=>by repeat' (first|exact trivial|exact Le.refl _|exact Le.cnd hg|(refine And.intro ?_ ?_))) (by kernel_rfl) ?_)
     (repeat' ((conv=>whnf);first|refine zA ?_|refine zO ?_|refine Ob.auto ?_|(refine Ob.intro (by (first|exact ⟨by omega,by omega⟩|exact fun _=>⟨by omega,by omega⟩|exact fun h=>absurd h (by decide))) ?_)|refine zD 300 ?_|(apply zB <;> intro hb <;> (try simp [-zd] at hb) <;> try (exfalso;omega))|refine Ob.intro ?_ ?_))
     have e:jh G (c.take k)=jh G (c.take (k+1)):=by rw [hgn];exact (ze fun h=>hli h.1).symm
     rw [e]
     ((conv=>whnf);refine ⟨k+1,by omega,⟨qa,qa⟩,⟨qa,qa⟩,?_⟩;(first|omega|(dsimp only;omega)|skip))
    ·exfalso;rw [← hcc] at hb;omega
  ·obtain rfl:k=c.length:=by omega
   rw [xi,← hnx]
   (repeat' ((conv=>whnf);first|refine zA ?_|refine zO ?_|refine Ob.auto ?_|refine zI ?_|refine zD 300 ?_|(apply zB <;> intro hb <;> (try simp [-zd] at hb) <;> try (exfalso;omega))|refine Ob.intro ?_ ?_))
   ·exfalso;rw [← hcc] at hb;omega
   ·((conv=>whnf);refine ⟨i+1,by omega,⟨qa,qa⟩,⟨qa,qa⟩,?_⟩;(first|omega|(dsimp only;omega)|skip))
 ·obtain rfl:i=cs.length:=by omega
  rw [xi]
  (repeat' ((conv=>whnf);first|refine zA ?_|refine zO ?_|refine Ob.auto ?_|refine zI ?_|refine zD 300 ?_|(apply zB <;> intro hb <;> (try simp [-zd] at hb) <;> try (exfalso;omega))|refine Ob.intro ?_ ?_))
  exact Le.refl _
end Go.Proofs.Ytkhdldncbmkidaa
