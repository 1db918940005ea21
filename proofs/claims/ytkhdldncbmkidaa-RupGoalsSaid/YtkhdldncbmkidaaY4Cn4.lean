/- Contracts: clauses by the document's answer: what is a literal, what holds, the own form. -/
import Derived.Test.YtkhdldncbmkidaaY44
import Derived.Test.YtkhdldncbmkidaaY42
set_option linter.unusedSimpArgs false
set_option linter.unusedVariables false
namespace Go.Proofs.Ytkhdldncbmkidaa
open List renaming getD_eq_getElem?_getD → zd
open Go Go.Sx Go.RowKit Go.St Go.Cl
set_option maxRecDepth 100000
set_option maxHeartbeats 4000000
theorem qfu (l:Int):Con Try.prog 25 [iv l] (.bool (litB l)):=by
 refine zK {} 300 Try.func25 (fun c0 rdb=>?_)
 (repeat' ((conv=>whnf);first|refine zA ?_|refine zO ?_|refine Ob.auto ?_|refine zD 300 ?_|(apply zB <;> intro hb <;> (try simp [-zd] at hb) <;> try (exfalso;omega))|refine Ob.intro ?_ ?_))
 exact Le.refl _
theorem jhi (l:Int) (h:litB l=true):Con Try.prog 26 [iv l] (iv (absI l)):=by
 have h:=(qdd l).1 h
 refine zK {} 300 Try.func26 (fun c0 rdb=>?_)
 (repeat' ((conv=>whnf);first|refine zA ?_|refine zO ?_|refine Ob.auto ?_|refine zI ?_|refine zD 300 ?_|(apply zB <;> intro hb <;> (try simp [-zd] at hb) <;> try (exfalso;omega))|refine Ob.intro ?_ ?_))
 all_goals (refine Le.of_eq (congrArg (AV.int _) ?_);unfold absI;omega)
theorem jhj (c:List Int) (hl:c.length≤1000000):Con Try.prog 16 [ints c] (.bool (rightB c)):=by
 refine zK {} 300 Try.func16 (fun c0 rdb=>?_)
 (repeat' ((conv=>whnf);first|refine zA ?_|refine zO ?_|refine Ob.auto ?_|refine zD 300 ?_|(apply zB <;> intro hb <;> (try simp [-zd] at hb) <;> try (exfalso;omega))|refine Ob.intro ?_ ?_))
 ((conv=>whnf);refine jk (fun _=>rfl) 300 1 (fun i:Nat=>[(3,iv i)]) (fun _=>[]) (fun i=>i≤c.length∧∀ j,j<i→litB (c.getD j 0)=true) (fun i=>c.length - i) (0) (⟨by omega,fun j hj=>absurd hj (zu j)⟩) qa qa (fun _=>rfl) (by kernel_rfl) ?_;(conv=>whnf))
 intro i hi
 (repeat' ((conv=>whnf);first|refine zA ?_|refine zO ?_|refine Ob.auto ?_|refine zI ?_|refine zC 300 (qfu (c.getD i 0)) ?_|refine zG 300 (fun hg=>qfu (c.getD i 0)) ?_|(refine CallY.con (qfu (c.getD i 0)) (by rfl) leA ?_)|(refine CallZ.con (fun hg=>qfu (c.getD i 0)) qp (by rfl) ?_)|(refine qv (fun _=>rfl) 300 (qfu (c.getD i 0)) qd (by (repeat' (first|exact trivial|exact Le.refl _|(refine And.intro ?_ ?_))) <;> fail) (by rfl) (by kernel_rfl) ?_)|(refine qw (fun _=>rfl) 300 (fun hg=>qfu (c.getD i 0)) (fun hg=>qd) (fun hg=>(by (repeat' (first|exact trivial|exact Le.refl _|exact Le.cnd hg|(refine And.intro ?_ ?_))) <;> fail)) (by rfl) (by kernel_rfl) ?_)|refine zD 300 ?_|(apply zB <;> intro hb <;> (try simp [-zd] at hb) <;> try (exfalso;omega))|refine Ob.intro ?_ ?_))
 ·refine Le.of_eq (congrArg AV.bool (Bool.eq_false_iff.2 fun h=>?_).symm)
  rw [List.all_eq_true.1 h _ (qgr c i 0 (by assumption))] at hb
  exact absurd hb (by decide)
 ·((conv=>whnf);refine ⟨i+1,⟨by omega,qkx hi.2 hb⟩,⟨qa,qa⟩,⟨qa,qa⟩,?_⟩;(first|omega|(dsimp only;omega)|skip))
 ·refine Le.of_eq (congrArg AV.bool (List.all_eq_true.2 fun x hx=>?_).symm)
  obtain ⟨j,hj,rfl⟩:=List.mem_iff_getElem.1 hx
  rw [← qik hj]
  exact hi.2 j (by omega)
theorem qwt (n:Int) (c:List Int) (k:Nat) (hk:k<c.length):jf n (c.take (k+1))=(if litB (c.getD k 0)=true∧jf n (c.take k)<absI (c.getD k 0) then absI (c.getD k 0) else jf n (c.take k)):=by
 have h:c.take (k+1)=c.take k++[c.getD k 0]:=by
  rw [zat,zd,zb hk];rfl
 unfold jf
 rw [h,List.foldl_append]
 rfl
theorem qwu (cs:List (List Int)) (i:Nat) (hi:i<cs.length):qe (cs.take (i+1))=jf (qe (cs.take i)) (cs.getD i []):=by
 have h:cs.take (i+1)=cs.take i++[cs.getD i []]:=by
  rw [zat,zd,zb hi];rfl
 unfold qe
 rw [h,List.foldl_append]
 rfl
theorem qqo (n:Int) (hn:0≤n∧n≤100000) (c:List Int):0≤jf n c∧jf n c≤100000:=by
 unfold jf
 induction c generalizing n with
 | nil=>exact hn
 | cons l c ih=>
  rw [List.foldl_cons]
  refine ih _ ?_
  split
  ·rename_i h
   have:=(qdd l).1 h.1
   unfold absI at *;omega
  ·exact hn
theorem qjb (cs:List (List Int)):0≤qe cs∧qe cs≤100000:=by
 unfold qe
 have:∀ (cs:List (List Int)) (n:Int),0≤n∧n≤100000→0≤cs.foldl jf n∧cs.foldl jf n≤100000:=by
  intro cs
  induction cs with
  | nil=>intro n h;exact h
  | cons c cs ih=>intro n h;rw [List.foldl_cons];exact ih _ (qqo n h c)
 exact this cs 0 ⟨Int.le_refl _,by decide⟩
theorem jhk (cs:List (List Int)) (hl:cs.length≤1000000) (hm:∀ c∈cs,c.length≤1000000):Con Try.prog 12 [qbh cs] (iv (qe cs)):=by
 refine zK {} 300 Try.func12 (fun c0 rdb=>?_)
 (repeat' ((conv=>whnf);first|refine zA ?_|refine zO ?_|refine Ob.auto ?_|refine zD 300 ?_|(apply zB <;> intro hb <;> (try simp [-zd] at hb) <;> try (exfalso;omega))|refine Ob.intro ?_ ?_))
 ((conv=>whnf);refine jk (fun _=>rfl) 300 1 (fun i:Nat=>[(4,iv i),(3,iv (qe (cs.take i)))]) (fun _=>[]) (fun i=>i≤cs.length) (fun i=>cs.length - i) (0) (xa _) qa qa (fun _=>rfl) (by kernel_rfl) ?_;(conv=>whnf))
 intro i hi
 by_cases hil:i<cs.length
 ·have hcl:=hm _ (qgr cs i [] hil)
  have hnx:=qwu cs i hil
  have hg:=qjb (cs.take i)
  generalize qe (cs.take i)=G at hnx hg ⊢
  obtain ⟨c,hcc⟩:∃ c,c=cs.getD i []:=⟨_,rfl⟩
  rw [← hcc] at hcl hnx
  (repeat' ((conv=>whnf);first|refine zA ?_|refine zO ?_|refine Ob.auto ?_|refine zI ?_|refine zD 300 ?_|(apply zB <;> intro hb <;> (try simp [-zd] at hb) <;> try (exfalso;omega))|refine Ob.intro ?_ ?_))
  ((conv=>whnf);refine jk (fun _=>rfl) 300 2 (fun k:Nat=>[(5,iv k),(3,iv (jf G (c.take k)))]) (fun _=>[]) (fun k=>k≤c.length) (fun k=>c.length - k) (0) (xa _) qa qa (fun _=>rfl) (by kernel_rfl) ?_;(conv=>whnf))
  intro k hk
  by_cases hkl:k<c.length
  ·have hgn:=qwt G c k hkl
   have hg1:=qqo G hg (c.take k)
   have hlc:=qfu (c.getD k 0)
   rw [hcc] at hlc
   by_cases hli:litB (c.getD k 0)=true
   ·have hv:=jhi (c.getD k 0) hli
    rw [hcc] at hv
    rw [← hcc,hli,hcc] at hlc
    (repeat' ((conv=>whnf);first|refine zA ?_|refine zO ?_|refine Ob.auto ?_|(refine Ob.intro (by (first|exact ⟨by omega,by omega⟩|exact fun _=>⟨by omega,by omega⟩)) ?_)|refine zC 300 (hlc) ?_|refine zG 300 (fun hg=>hlc) ?_|(refine CallY.con (hlc) (by rfl) leA ?_)|(refine CallZ.con (fun hg=>hlc) qp (by rfl) ?_)|refine zC 300 (hv) ?_|refine zG 300 (fun hg=>hv) ?_|(refine CallY.con (hv) (by rfl) leA ?_)|(refine CallZ.con (fun hg=>hv) qp (by rfl) ?_)|(refine qv (fun _=>rfl) 300 (hlc) qd (by (repeat' (first|exact trivial|exact Le.refl _|(refine And.intro ?_ ?_))) <;> fail) (by rfl) (by kernel_rfl) ?_)|(refine qw (fun _=>rfl) 300 (fun hg=>hlc) (fun hg=>qd) (fun hg=>(by (repeat' (first|exact trivial|exact Le.refl _|exact Le.cnd hg|(refine And.intro ?_ ?_))) <;> fail)) (by rfl) (by kernel_rfl) ?_)|(refine qv (fun _=>rfl) 300 (hv) qd (by (repeat' (first|exact trivial|exact Le.refl _|(refine And.intro ?_ ?_))) <;> fail) (by rfl) (by kernel_rfl) ?_)|(refine qw (fun _=>rfl) 300 (fun hg=>hv) (fun hg=>qd) (fun hg=>(by (repeat' (first|exact trivial|exact Le.refl _|exact Le.cnd hg|(refine And.intro ?_ ?_))) <;> fail)) (by rfl) (by kernel_rfl) ?_)|refine zD 300 ?_|(apply zB <;> intro hb <;> (try simp [-zd] at hb) <;> try (exfalso;omega))|refine Ob.intro ?_ ?_))
    ·have e:absI ((cs.getD i []).getD k 0)=jf G (c.take (k+1)):=by rw [hgn,← hcc];exact (za ⟨hli,by rw [← hcc] at hb;exact hb⟩).symm
     rw [e]
     ((conv=>whnf);refine ⟨k+1,by omega,⟨qa,qa⟩,⟨qa,qa⟩,?_⟩;(first|omega|(dsimp only;omega)|skip))
    ·have e:jf G (c.take k)=jf G (c.take (k+1)):=by rw [hgn];exact (ze fun h=>by rw [hcc] at h;rw [← hcc] at h hb;omega).symm
     rw [e]
     ((conv=>whnf);refine ⟨k+1,by omega,⟨qa,qa⟩,⟨qa,qa⟩,?_⟩;(first|omega|(dsimp only;omega)|skip))
    ·exfalso;rw [← hcc] at hb;omega
   ·have hlf:=Bool.not_eq_true _ ▸ hli
    rw [← hcc,hlf,hcc] at hlc
    have hno:false=true→Con Try.prog 26 [iv ((cs.getD i []).getD k 0)] (iv 0):=fun h=>absurd h (by decide)
    (repeat' ((conv=>whnf);first|refine zA ?_|refine zO ?_|refine Ob.auto ?_|(refine Ob.intro (by (first|exact ⟨by omega,by omega⟩|exact fun _=>⟨by omega,by omega⟩)) ?_)|refine zC 300 (hlc) ?_|refine zG 300 (fun hg=>hlc) ?_|(refine CallY.con (hlc) (by rfl) leA ?_)|(refine CallZ.con (fun hg=>hlc) qp (by rfl) ?_)|(refine qv (fun _=>rfl) 300 (hlc) qd (by (repeat' (first|exact trivial|exact Le.refl _|(refine And.intro ?_ ?_))) <;> fail) (by rfl) (by kernel_rfl) ?_)|(refine qw (fun _=>rfl) 300 (fun hg=>hlc) (fun hg=>qd) (fun hg=>(by (repeat' (first|exact trivial|exact Le.refl _|exact Le.cnd hg|(refine And.intro ?_ ?_))) <;> fail)) (by rfl) (by kernel_rfl) ?_)|refine zD 300 ?_|(apply zB <;> intro hb <;> (try simp [-zd] at hb) <;> try (exfalso;omega))|refine Ob.intro ?_ ?_))
    ·((conv=>whnf);refine qfd (fun _=>rfl) 300 (fun hg=>hno hg) (by rfl) (fun hg=>by repeat' (first|exact trivial|exact Le.refl _|exact Le.cnd hg|(refine And.intro ?_ ?_))) (by kernel_rfl) ?_)
     (repeat' ((conv=>whnf);first|refine zA ?_|refine zO ?_|refine Ob.auto ?_|(refine Ob.intro (by (first|exact ⟨by omega,by omega⟩|exact fun _=>⟨by omega,by omega⟩|exact fun h=>absurd h (by decide))) ?_)|refine zD 300 ?_|(apply zB <;> intro hb <;> (try simp [-zd] at hb) <;> try (exfalso;omega))|refine Ob.intro ?_ ?_))
     have e:jf G (c.take k)=jf G (c.take (k+1)):=by rw [hgn];exact (ze fun h=>hli h.1).symm
     rw [e]
     ((conv=>whnf);refine ⟨k+1,by omega,⟨qa,qa⟩,⟨qa,qa⟩,?_⟩;(first|omega|(dsimp only;omega)|skip))
    ·exfalso;rw [← hcc] at hb;omega
  ·obtain rfl:k=c.length:=by omega
   rw [xi,← hnx]
   (repeat' ((conv=>whnf);first|refine zA ?_|refine zO ?_|refine Ob.auto ?_|refine zI ?_|refine zD 300 ?_|(apply zB <;> intro hb <;> (try simp [-zd] at hb) <;> try (exfalso;omega))|refine Ob.intro ?_ ?_))
   ·exfalso;rw [← hcc] at hb;omega
   ·((conv=>whnf);refine ⟨i+1,by omega,⟨qa,qa⟩,⟨qa,qa⟩,?_⟩;(first|omega|(dsimp only;omega)|skip))
 ·obtain rfl:i=cs.length:=by omega
  rw [xi]
  (repeat' ((conv=>whnf);first|refine zA ?_|refine zO ?_|refine Ob.auto ?_|refine zI ?_|refine zD 300 ?_|(apply zB <;> intro hb <;> (try simp [-zd] at hb) <;> try (exfalso;omega))|refine Ob.intro ?_ ?_))
  exact Le.refl _
end Go.Proofs.Ytkhdldncbmkidaa
