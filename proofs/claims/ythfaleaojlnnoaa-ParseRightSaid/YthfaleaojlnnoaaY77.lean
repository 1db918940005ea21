/- Some texts of the library, one behind the other. -/
import Derived.Test.YthfaleaojlnnoaaY73
import Derived.Test.YthfaleaojlnnoaaY72
import Derived.Test.YthfaleaojlnnoaaProg
import Derived.KernelRfl
import Derived.Test.YthfaleaojlnnoaaY7LexPlain
import Derived.Test.YthfaleaojlnnoaaY7Pa2
set_option linter.unusedSimpArgs false
set_option linter.unusedVariables false
section
namespace Go.Proofs.Ythfaleaojlnnoaa
open List renaming getD_eq_getElem?_getD → zd
open Go Go.Sx Go.RowKit Go.St
set_option maxRecDepth 100000
set_option maxHeartbeats 2000000
abbrev bv (n:Int):AV:=.int .u8 n
theorem jju (c:Int):Con Try.prog 33 [bv c] (.bool (decide (48≤c) && decide (c≤57))):=by
 refine zK {} 300 Try.func33 (fun c0 rdb=>?_)
 (repeat' ((conv=>whnf);first|refine Ob.auto ?_|fail))
 exact Le.refl _
theorem qzh (c:Int):Con Try.prog 31 [bv c] (.bool (qhn c)):=by
 refine zK {} 300 Try.func31 (fun c0 rdb=>?_)
 (repeat' ((conv=>whnf);first|refine Ob.auto ?_|fail))
 exact Le.refl _
theorem jjv (c:Int):Con Try.prog 32 [bv c] (.bool (qix c)):=by
 refine zK {} 300 Try.func32 (fun c0 rdb=>?_)
 (repeat' ((conv=>whnf);first|refine Ob.auto ?_|refine zC 300 (qzh c) ?_|refine zG 300 (fun hg=>jju c) ?_|fail))
 exact Le.refl _
theorem jjw (f:Nat→List AV) (h:∀ i,i<21→f i=encL (fun s=>[.str s]) [] keyL i):Le (.slc 1 21 f) (strs keyL):=Le.slc rfl h
theorem jjx (s:List UInt8):Con Try.prog 89 [.str s] (.bool (keyF s)):=by
 refine zK {} 300 Try.func89 (fun c0 rdb=>?_)
 ((conv=>whnf);refine qbb (fun _=>rfl) 300 1 (fun i:Nat=>[(4,iv i),(3,strs keyL)]) (fun _=>[]) (fun i=>i≤keyL.length∧∀ j,j<i→(keyL.getD j [] == s)=false) (fun i=>keyL.length - i) (0) (⟨by omega,fun j hj=>absurd hj (zv j)⟩) ⟨Le.refl _,jjw _ (fun i hi=>match i,hi with|0,_=>rfl|1,_=>rfl|2,_=>rfl|3,_=>rfl|4,_=>rfl|5,_=>rfl|6,_=>rfl|7,_=>rfl|8,_=>rfl|9,_=>rfl|10,_=>rfl|11,_=>rfl|12,_=>rfl|13,_=>rfl|14,_=>rfl|15,_=>rfl|16,_=>rfl|17,_=>rfl|18,_=>rfl|19,_=>rfl|20,_=>rfl|n+21,h=>absurd h (by omega)),trivial⟩ qa (fun _=>rfl) (by kernel_rfl) ?_;(conv=>whnf))
 intro i hi
 have h21:keyL.length=21:=rfl
 (repeat' ((conv=>whnf);first|refine Ob.auto ?_|(apply zB <;> intro hb <;> (try simp [-zd] at hb) <;> try (exfalso;omega))))
 ·refine Le.of_eq (congrArg AV.bool ?_)
  unfold keyF
  exact (List.any_eq_true.2 ⟨keyL.getD i [],qiw keyL i [] (by omega),by simpa using hb⟩).symm
 ·((conv=>whnf);refine ⟨i+1,⟨by omega,qea hi.2 (beq_eq_false_iff_ne.2 hb)⟩,⟨qa,qa⟩,⟨qa,qa⟩,?_⟩;(first|omega|(dsimp only;omega)|skip))
 ·refine Le.of_eq (congrArg AV.bool ?_)
  unfold keyF
  rw [eq_comm,Bool.eq_false_iff]
  intro h
  obtain ⟨x,hx,he⟩:=List.any_eq_true.1 h
  obtain ⟨j,hj,rfl⟩:=List.mem_iff_getElem.1 hx
  have:=hi.2 j (by omega)
  rw [zd,ze hj] at this
  simp only [zal] at this
  rw [this] at he;cases he
theorem jjy (s:List UInt8):Con Try.prog 76 [.str s] (.bool (nameF s)):=by
 refine zK {} 300 Try.func76 (fun c0 rdb=>?_)
 (repeat' ((conv=>whnf);first|refine Ob.auto ?_|(refine Ob.intro (by ((intro h;simp at h ⊢;exact ⟨h,by have:=List.length_pos_iff.2 h.1;omega⟩))) ?_)|refine zG 300 (fun hg=>qzh _) ?_|refine zG 300 (fun hg=>jjx s) ?_|(apply zB <;> intro hb <;> (try simp [-zd] at hb) <;> try (exfalso;omega))))
 ·refine Le.of_eq (congrArg AV.bool ?_)
  unfold nameF
  have:(decide (s.length=0) || decide (12<s.length) || !qhn (qcl s 0) || keyF s)=true:=by
   simp only [xh,zo,List.length_eq_zero_iff,xd]
   rcases hb with ((hb|hb)|hb)|hb
   ·exact .inl (.inl (.inl hb))
   ·exact .inl (.inl (.inr (by omega)))
   ·exact .inl (.inr hb)
   ·exact .inr hb
  rw [this];rfl
 ·have h0:(decide (s.length=0) || decide (12<s.length) || !qhn (qcl s 0) || keyF s)=false:=by
   simp only [zao,decide_eq_false_iff_not,List.length_eq_zero_iff,Bool.not_eq_false']
   exact ⟨⟨⟨hb.1.1.1,by omega⟩,hb.1.2⟩,hb.2⟩
  ((conv=>whnf);refine qbb (fun _=>rfl) 300 1 (fun i:Nat=>[(3,iv i)]) (fun _=>[]) (fun i=>i≤s.length∧∀ j,j<i→qix (qcl s j)=true) (fun i=>s.length - i) (0) (⟨by omega,fun j hj=>absurd hj (zv j)⟩) qa qa (fun _=>rfl) (by kernel_rfl) ?_;(conv=>whnf))
  intro i hi
  (repeat' ((conv=>whnf);first|refine Ob.auto ?_|refine zC 300 (jjv _) ?_|(apply zB <;> intro hb <;> (try simp [-zd] at hb) <;> try (exfalso;omega))))
  ·refine Le.of_eq (congrArg AV.bool ?_)
   unfold nameF
   rw [h0,qmw (q:=fun i=>qix (qcl s i)) (i:=i) (by omega) hb];rfl
  ·((conv=>whnf);refine ⟨i+1,⟨by omega,qea hi.2 hb⟩,⟨qa,qa⟩,⟨qa,qa⟩,?_⟩;(first|omega|(dsimp only;omega)|skip))
  ·refine Le.of_eq (congrArg AV.bool ?_)
   unfold nameF
   rw [h0,qmx (q:=fun i=>qix (qcl s i)) (fun j hj=>hi.2 j (by omega))];rfl
theorem qtq (k a b:Int):Con Try.prog 50 [iv k,iv a,iv b] (.bool (inK k a b)):=by
 refine zK {} 300 Try.func50 (fun c0 rdb=>?_)
 (repeat' ((conv=>whnf);first|refine Ob.auto ?_|fail))
 exact Le.refl _
theorem qtr (l:List Nd) (n:Nd) (i:Int) (h0:0≤i) (h1:i<n.kids.length) (hk:∀ k∈n.kids,0≤k∧k<l.length):Con Try.prog 51 [qcv l,.agg n.cells,iv i] (iv (kidK l n i.toNat)):=by
 have hki:=hk _ (qiw n.kids i.toNat 0 (by omega))
 refine zK {} 300 Try.func51 (fun c0 rdb=>?_)
 (repeat' ((conv=>whnf);first|refine Ob.auto ?_|fail))
 exact Le.refl _
theorem qzi (n:Nd) (hn:NdSz n) (c most:Int):Con Try.prog 48 [.agg n.cells,iv c,iv most] (.bool (qt n c most)):=by
 have hl:=hn.ln
 refine zK {} 300 Try.func48 (fun c0 rdb=>?_)
 ((conv=>whnf);refine qbb (fun _=>rfl) 300 1 (fun i:Nat=>[(7,iv i)]) (fun _=>[]) (fun i=>i≤n.nums.length∧∀ j,j<i→(decide (0≤n.nums.getD j 0) && decide (n.nums.getD j 0≤most))=true) (fun i=>n.nums.length - i) (0) (⟨by omega,fun j hj=>absurd hj (zv j)⟩) qa qa (fun _=>rfl) (by kernel_rfl) ?_;(conv=>whnf))
 intro i hi
 (repeat' ((conv=>whnf);first|refine Ob.auto ?_|(apply zB <;> intro hb <;> (try simp [-zd] at hb) <;> try (exfalso;omega))))
 ·refine Le.of_eq (congrArg AV.bool ?_)
  unfold qt
  rw [qmv (q:=fun x=>decide (0≤x) && decide (x≤most)) 0 (j:=i) (by omega) (by simp only [Bool.and_eq_false_iff,decide_eq_false_iff_not];omega)];rfl
 ·((conv=>whnf);refine ⟨i+1,⟨by omega,qea hi.2 (by simp only [zf,zo];omega)⟩,⟨qa,qa⟩,⟨qa,qa⟩,?_⟩;(first|omega|(dsimp only;omega)|skip))
 ·refine Le.of_eq (congrArg AV.bool ?_)
  unfold qt
  rw [qmu (q:=fun x=>decide (0≤x) && decide (x≤most)) 0 (fun j hj=>hi.2 j (by omega))];rfl
theorem qzj (n:Nd) (hn:NdSz n) (c:Int):Con Try.prog 47 [.agg n.cells,iv c] (.bool (qg n c)):=by
 have hl:=hn.lw
 refine zK {} 300 Try.func47 (fun c0 rdb=>?_)
 ((conv=>whnf);refine qbb (fun _=>rfl) 300 1 (fun i:Nat=>[(5,iv i)]) (fun _=>[]) (fun i=>i≤n.words.length∧∀ j,j<i→nameF (n.words.getD j [])=true) (fun i=>n.words.length - i) (0) (⟨by omega,fun j hj=>absurd hj (zv j)⟩) qa qa (fun _=>rfl) (by kernel_rfl) ?_;(conv=>whnf))
 intro i hi
 (repeat' ((conv=>whnf);first|refine Ob.auto ?_|refine zC 300 (jjy _) ?_|(apply zB <;> intro hb <;> (try simp [-zd] at hb) <;> try (exfalso;omega))))
 ·refine Le.of_eq (congrArg AV.bool ?_)
  unfold qg
  rw [qmv (q:=nameF) [] (j:=i) (by omega) hb];rfl
 ·((conv=>whnf);refine ⟨i+1,⟨by omega,qea hi.2 hb⟩,⟨qa,qa⟩,⟨qa,qa⟩,?_⟩;(first|omega|(dsimp only;omega)|skip))
 ·refine Le.of_eq (congrArg AV.bool ?_)
  unfold qg
  rw [qmu (q:=nameF) [] (fun j hj=>hi.2 j (by omega))];rfl
theorem qzk (l:List Nd) (n:Nd) (hn:NdSz n) (hk:∀ k∈n.kids,0≤k∧k<l.length) (frm:Nat) (hf:frm≤n.kids.length) (a b:Int):Con Try.prog 49 [qcv l,.agg n.cells,iv frm,iv a,iv b] (.bool (allB l n frm a b)):=by
 have hl:=hn.lk
 refine zK {} 300 Try.func49 (fun c0 rdb=>?_)
 ((conv=>whnf);refine qbb (fun _=>rfl) 300 1 (fun i:Nat=>[(11,iv i)]) (fun _=>[]) (fun i=>(frm≤i∧i≤n.kids.length)∧∀ j,j<i→(decide (j<frm) || inK (kidK l n j) a b)=true) (fun i=>n.kids.length - i) (frm) (⟨by omega,fun j hj=>by simp [hj]⟩) qa qa (fun _=>rfl) (by kernel_rfl) ?_;(conv=>whnf))
 intro i hi
 (repeat' ((conv=>whnf);first|refine Ob.auto ?_|refine zC 300 (qtr l n i (by omega) (by omega) hk) ?_|refine zC 300 (qtq _ _ _) ?_|(apply zB <;> intro hb <;> (try simp [-zd] at hb) <;> try (exfalso;omega))))
 ·refine Le.of_eq (congrArg AV.bool ?_)
  exact (qmw (i:=i) (by omega) (by simp only [zao,decide_eq_false_iff_not];exact ⟨by omega,hb⟩)).symm
 ·((conv=>whnf);refine ⟨i+1,⟨by omega,qea hi.2 (by rw [xh];exact .inr hb)⟩,⟨qa,qa⟩,⟨qa,qa⟩,?_⟩;(first|omega|(dsimp only;omega)|skip))
 ·refine Le.of_eq (congrArg AV.bool ?_)
  exact (qmx (fun j hj=>hi.2 j (by omega))).symm
theorem jjz (l:List Nd) (n:Nd) (hn:NdSz n) (hk:∀ k∈n.kids,0≤k∧k<l.length) (first least most:Int) (hf:(0≤first∧first≤100000)∧(0≤least∧least≤100000)∧(0≤most∧most≤100000)):Con Try.prog 52 [qcv l,.agg n.cells,iv first,iv least,iv most] (.bool (qag l n first least most)):=by
 have hl:=hn.lk
 refine zK {} 300 Try.func52 (fun c0 rdb=>?_)
 ((conv=>whnf);refine qbb (fun _=>rfl) 300 1 (fun i:Nat=>[(12,iv i)]) (fun _=>[]) (fun i=>i≤n.kids.length∧∀ j,j<i→(!(decide ((j:Int)<first) && !inK (kidK l n j) 17 22 || decide (first≤(j:Int)) && kidK l n j != 16))=true) (fun i=>n.kids.length - i) (0) (⟨by omega,fun j hj=>absurd hj (zv j)⟩) qa qa (fun _=>rfl) (by kernel_rfl) ?_;(conv=>whnf))
 intro i hi
 (repeat' ((conv=>whnf);first|refine Ob.auto ?_|refine zG 300 (fun hg=>qtr l n i (by omega) (by omega) hk) ?_|refine zG 300 (fun hg=>qtq _ _ _) ?_|(apply zB <;> intro hb <;> (try simp [-zd] at hb) <;> try (exfalso;omega))))
 ·refine Le.of_eq (congrArg AV.bool ?_)
  unfold qag
  rw [qmw (i:=i) (by omega) (by
   simp only [Bool.not_eq_false',xh,zf,zo,xd,bne_iff_ne,ne_eq]
   exact hb)];rfl
 ·((conv=>whnf);refine ⟨i+1,⟨by omega,qea hi.2 (by
   simp only [xd,zao,Bool.and_eq_false_imp,zo,Bool.not_eq_false',bne_eq_false_iff_eq]
   exact hb)⟩,⟨qa,qa⟩,⟨qa,qa⟩,?_⟩;(first|omega|(dsimp only;omega)|skip))
 ·refine Le.of_eq (congrArg AV.bool ?_)
  unfold qag
  rw [qmx (fun j hj=>hi.2 j (by omega))];rfl
end Go.Proofs.Ythfaleaojlnnoaa
end
section
namespace Go.Proofs.Ythfaleaojlnnoaa
open Go.Sx Go.RowKit
set_option maxRecDepth 100000

set_option maxHeartbeats 2000000

end Go.Proofs.Ythfaleaojlnnoaa
end
section
namespace Go.Proofs.Ythfaleaojlnnoaa
open Go Go.Sx Go.RowKit Go.St Pa
set_option maxRecDepth 100000
set_option maxHeartbeats 2000000
section
variable {ts:List Lx.Tok} {p:Ps}
end
set_option maxHeartbeats 4000000
structure Pre (ts:List Lx.Tok) (n:Nat) (p:Ps):Prop where
 at_:AtOk ts p
 deep:0≤p.deep∧p.deep≤p.at_+1
 left:(ts.length:Int) - p.at_≤n
section
variable {ts:List Lx.Tok} {p q:Ps} {n:Nat}
theorem Pre.step (h:Pre ts n p) (k:Step ts p q):Pre ts n q:=
 ⟨k.ok h.at_,by have:=h.deep;have:=k.deep;have:=k.le;omega,by have:=h.left;have:=k.le;omega⟩
end
section
variable {ts:List Lx.Tok} {p q:Ps} {n:Nat}
end
end Go.Proofs.Ythfaleaojlnnoaa
end
