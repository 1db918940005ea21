/- Some texts of the library, one behind the other. -/
import Derived.Test.YtikahnkkfkoglaaGreatDoorY14
import Derived.Test.YtikahnkkfkoglaaGreatDoorY12
import Derived.Test.YtikahnkkfkoglaaGreatDoorProg
import Derived.KernelRfl
import Derived.Test.YtikahnkkfkoglaaGreatDoorY121
set_option linter.unusedSimpArgs false
set_option linter.unusedVariables false
section
namespace Go.Proofs.YtikahnkkfkoglaaGreatDoor
open List renaming getD_eq_getElem?_getD → zd
open Go Go.Sx Go.RowKit Go.St
set_option maxRecDepth 100000
set_option maxHeartbeats 2000000
abbrev bv (n:Int):AV:=.int .u8 n
theorem jdy (c:Int):Con Tryz.prog 59 [bv c] (.bool (decide (48≤c) && decide (c≤57))):=by
 refine zK {} 300 Tryz.func59 (fun c0 rdb=>?_)
 (repeat' ((conv=>whnf);first|refine Ob.auto ?_|fail))
 exact Le.refl _
theorem qwo (c:Int):Con Tryz.prog 57 [bv c] (.bool (qno c)):=by
 refine zK {} 300 Tryz.func57 (fun c0 rdb=>?_)
 (repeat' ((conv=>whnf);first|refine Ob.auto ?_|fail))
 exact Le.refl _
theorem jdz (c:Int):Con Tryz.prog 58 [bv c] (.bool (qnp c)):=by
 refine zK {} 300 Tryz.func58 (fun c0 rdb=>?_)
 (repeat' ((conv=>whnf);first|refine Ob.auto ?_|refine zC 300 (qwo c) ?_|refine zG 300 (fun hg=>jdy c) ?_|fail))
 exact Le.refl _
theorem jre (f:Nat→List AV) (h:∀ i,i<21→f i=encL (fun s=>[.str s]) [] keyL i):Le (.slc 1 21 f) (strs keyL):=Le.slc rfl h
theorem jea (s:List UInt8):Con Tryz.prog 123 [.str s] (.bool (keyF s)):=by
 refine zK {} 300 Tryz.func123 (fun c0 rdb=>?_)
 ((conv=>whnf);refine qo (fun _=>rfl) 300 1 (fun i:Nat=>[(4,iv i),(3,strs keyL)]) (fun _=>[]) (fun i=>i≤keyL.length∧∀ j,j<i→(keyL.getD j [] == s)=false) (fun i=>keyL.length - i) (0) (⟨by omega,fun j hj=>absurd hj (zj j)⟩) ⟨Le.refl _,jre _ (fun i hi=>match i,hi with|0,_=>rfl|1,_=>rfl|2,_=>rfl|3,_=>rfl|4,_=>rfl|5,_=>rfl|6,_=>rfl|7,_=>rfl|8,_=>rfl|9,_=>rfl|10,_=>rfl|11,_=>rfl|12,_=>rfl|13,_=>rfl|14,_=>rfl|15,_=>rfl|16,_=>rfl|17,_=>rfl|18,_=>rfl|19,_=>rfl|20,_=>rfl|n+21,h=>absurd h (by omega)),trivial⟩ qa (fun _=>rfl) (by kernel_rfl) ?_;(conv=>whnf))
 intro i hi
 have h21:keyL.length=21:=rfl
 (repeat' ((conv=>whnf);first|refine Ob.auto ?_|(apply zB <;> intro hb <;> (try simp [-zd] at hb) <;> try (exfalso;omega))))
 ·refine Le.of_eq (congrArg AV.bool ?_)
  unfold keyF
  exact (List.any_eq_true.2 ⟨keyL.getD i [],qm keyL i [] (by omega),by simpa using hb⟩).symm
 ·((conv=>whnf);refine ⟨i+1,⟨by omega,qbe hi.2 (beq_eq_false_iff_ne.2 hb)⟩,⟨qa,qa⟩,⟨qa,qa⟩,?_⟩;(first|omega|(dsimp only;omega)|skip))
 ·refine Le.of_eq (congrArg AV.bool ?_)
  unfold keyF
  rw [eq_comm,xj]
  intro h
  obtain ⟨x,hx,he⟩:=List.any_eq_true.1 h
  obtain ⟨j,hj,rfl⟩:=List.mem_iff_getElem.1 hx
  have:=hi.2 j (by omega)
  rw [zd,ze hj] at this
  simp only [zaj] at this
  rw [this] at he;cases he
theorem jeb (s:List UInt8):Con Tryz.prog 105 [.str s] (.bool (nameF s)):=by
 refine zK {} 300 Tryz.func105 (fun c0 rdb=>?_)
 (repeat' ((conv=>whnf);first|refine Ob.auto ?_|(refine Ob.intro (by ((intro h;simp at h ⊢;exact ⟨h,by have:=List.length_pos_iff.2 h.1;omega⟩))) ?_)|refine zG 300 (fun hg=>qwo _) ?_|refine zG 300 (fun hg=>jea s) ?_|(apply zB <;> intro hb <;> (try simp [-zd] at hb) <;> try (exfalso;omega))))
 ·refine Le.of_eq (congrArg AV.bool ?_)
  unfold nameF
  have:(decide (s.length=0) || decide (12<s.length) || !qno (qbc s 0) || keyF s)=true:=by
   simp only [zaa,xd,List.length_eq_zero_iff,zad]
   rcases hb with ((hb|hb)|hb)|hb
   ·exact .inl (.inl (.inl hb))
   ·exact .inl (.inl (.inr (by omega)))
   ·exact .inl (.inr hb)
   ·exact .inr hb
  rw [this];rfl
 ·have h0:(decide (s.length=0) || decide (12<s.length) || !qno (qbc s 0) || keyF s)=false:=by
   simp only [xy,decide_eq_false_iff_not,List.length_eq_zero_iff,Bool.not_eq_false']
   exact ⟨⟨⟨hb.1.1.1,by omega⟩,hb.1.2⟩,hb.2⟩
  ((conv=>whnf);refine qo (fun _=>rfl) 300 1 (fun i:Nat=>[(3,iv i)]) (fun _=>[]) (fun i=>i≤s.length∧∀ j,j<i→qnp (qbc s j)=true) (fun i=>s.length - i) (0) (⟨by omega,fun j hj=>absurd hj (zj j)⟩) qa qa (fun _=>rfl) (by kernel_rfl) ?_;(conv=>whnf))
  intro i hi
  (repeat' ((conv=>whnf);first|refine Ob.auto ?_|refine zC 300 (jdz _) ?_|(apply zB <;> intro hb <;> (try simp [-zd] at hb) <;> try (exfalso;omega))))
  ·refine Le.of_eq (congrArg AV.bool ?_)
   unfold nameF
   rw [h0,qrg (q:=fun i=>qnp (qbc s i)) (i:=i) (by omega) hb];rfl
  ·((conv=>whnf);refine ⟨i+1,⟨by omega,qbe hi.2 hb⟩,⟨qa,qa⟩,⟨qa,qa⟩,?_⟩;(first|omega|(dsimp only;omega)|skip))
  ·refine Le.of_eq (congrArg AV.bool ?_)
   unfold nameF
   rw [h0,qju (q:=fun i=>qnp (qbc s i)) (fun j hj=>hi.2 j (by omega))];rfl
theorem qwp (k a b:Int):Con Tryz.prog 72 [iv k,iv a,iv b] (.bool (inK k a b)):=by
 refine zK {} 300 Tryz.func72 (fun c0 rdb=>?_)
 (repeat' ((conv=>whnf);first|refine Ob.auto ?_|fail))
 exact Le.refl _
theorem qwq (l:List Nd) (n:Nd) (i:Int) (h0:0≤i) (h1:i<n.kids.length) (hk:∀ k∈n.kids,0≤k∧k<l.length):Con Tryz.prog 73 [jr l,.agg n.cells,iv i] (iv (kidK l n i.toNat)):=by
 have hki:=hk _ (qm n.kids i.toNat 0 (by omega))
 refine zK {} 300 Tryz.func73 (fun c0 rdb=>?_)
 (repeat' ((conv=>whnf);first|refine Ob.auto ?_|fail))
 exact Le.refl _
theorem jec (n:Nd) (hn:NdSz n) (c most:Int):Con Tryz.prog 70 [.agg n.cells,iv c,iv most] (.bool (numsB n c most)):=by
 have hl:=hn.ln
 refine zK {} 300 Tryz.func70 (fun c0 rdb=>?_)
 ((conv=>whnf);refine qo (fun _=>rfl) 300 1 (fun i:Nat=>[(7,iv i)]) (fun _=>[]) (fun i=>i≤n.nums.length∧∀ j,j<i→(decide (0≤n.nums.getD j 0) && decide (n.nums.getD j 0≤most))=true) (fun i=>n.nums.length - i) (0) (⟨by omega,fun j hj=>absurd hj (zj j)⟩) qa qa (fun _=>rfl) (by kernel_rfl) ?_;(conv=>whnf))
 intro i hi
 (repeat' ((conv=>whnf);first|refine Ob.auto ?_|(apply zB <;> intro hb <;> (try simp [-zd] at hb) <;> try (exfalso;omega))))
 ·refine Le.of_eq (congrArg AV.bool ?_)
  unfold numsB
  rw [qrf (q:=fun x=>decide (0≤x) && decide (x≤most)) 0 (j:=i) (by omega) (by simp only [Bool.and_eq_false_iff,decide_eq_false_iff_not];omega)];rfl
 ·((conv=>whnf);refine ⟨i+1,⟨by omega,qbe hi.2 (by simp only [zf,xd];omega)⟩,⟨qa,qa⟩,⟨qa,qa⟩,?_⟩;(first|omega|(dsimp only;omega)|skip))
 ·refine Le.of_eq (congrArg AV.bool ?_)
  unfold numsB
  rw [qre (q:=fun x=>decide (0≤x) && decide (x≤most)) 0 (fun j hj=>hi.2 j (by omega))];rfl
theorem jed (n:Nd) (hn:NdSz n) (c:Int):Con Tryz.prog 69 [.agg n.cells,iv c] (.bool (wordsB n c)):=by
 have hl:=hn.lw
 refine zK {} 300 Tryz.func69 (fun c0 rdb=>?_)
 ((conv=>whnf);refine qo (fun _=>rfl) 300 1 (fun i:Nat=>[(5,iv i)]) (fun _=>[]) (fun i=>i≤n.words.length∧∀ j,j<i→nameF (n.words.getD j [])=true) (fun i=>n.words.length - i) (0) (⟨by omega,fun j hj=>absurd hj (zj j)⟩) qa qa (fun _=>rfl) (by kernel_rfl) ?_;(conv=>whnf))
 intro i hi
 (repeat' ((conv=>whnf);first|refine Ob.auto ?_|refine zC 300 (jeb _) ?_|(apply zB <;> intro hb <;> (try simp [-zd] at hb) <;> try (exfalso;omega))))
 ·refine Le.of_eq (congrArg AV.bool ?_)
  unfold wordsB
  rw [qrf (q:=nameF) [] (j:=i) (by omega) hb];rfl
 ·((conv=>whnf);refine ⟨i+1,⟨by omega,qbe hi.2 hb⟩,⟨qa,qa⟩,⟨qa,qa⟩,?_⟩;(first|omega|(dsimp only;omega)|skip))
 ·refine Le.of_eq (congrArg AV.bool ?_)
  unfold wordsB
  rw [qre (q:=nameF) [] (fun j hj=>hi.2 j (by omega))];rfl
theorem jee (l:List Nd) (n:Nd) (hn:NdSz n) (hk:∀ k∈n.kids,0≤k∧k<l.length) (frm:Nat) (hf:frm≤n.kids.length) (a b:Int):Con Tryz.prog 71 [jr l,.agg n.cells,iv frm,iv a,iv b] (.bool (allB l n frm a b)):=by
 have hl:=hn.lk
 refine zK {} 300 Tryz.func71 (fun c0 rdb=>?_)
 ((conv=>whnf);refine qo (fun _=>rfl) 300 1 (fun i:Nat=>[(11,iv i)]) (fun _=>[]) (fun i=>(frm≤i∧i≤n.kids.length)∧∀ j,j<i→(decide (j<frm) || inK (kidK l n j) a b)=true) (fun i=>n.kids.length - i) (frm) (⟨by omega,fun j hj=>by simp [hj]⟩) qa qa (fun _=>rfl) (by kernel_rfl) ?_;(conv=>whnf))
 intro i hi
 (repeat' ((conv=>whnf);first|refine Ob.auto ?_|refine zC 300 (qwq l n i (by omega) (by omega) hk) ?_|refine zC 300 (qwp _ _ _) ?_|(apply zB <;> intro hb <;> (try simp [-zd] at hb) <;> try (exfalso;omega))))
 ·refine Le.of_eq (congrArg AV.bool ?_)
  exact (qrg (i:=i) (by omega) (by simp only [xy,decide_eq_false_iff_not];exact ⟨by omega,hb⟩)).symm
 ·((conv=>whnf);refine ⟨i+1,⟨by omega,qbe hi.2 (by rw [zaa];exact .inr hb)⟩,⟨qa,qa⟩,⟨qa,qa⟩,?_⟩;(first|omega|(dsimp only;omega)|skip))
 ·refine Le.of_eq (congrArg AV.bool ?_)
  exact (qju (fun j hj=>hi.2 j (by omega))).symm
theorem jrf (l:List Nd) (n:Nd) (hn:NdSz n) (hk:∀ k∈n.kids,0≤k∧k<l.length) (first least most:Int) (hf:(0≤first∧first≤100000)∧(0≤least∧least≤100000)∧(0≤most∧most≤100000)):Con Tryz.prog 74 [jr l,.agg n.cells,iv first,iv least,iv most] (.bool (exprsB l n first least most)):=by
 have hl:=hn.lk
 refine zK {} 300 Tryz.func74 (fun c0 rdb=>?_)
 ((conv=>whnf);refine qo (fun _=>rfl) 300 1 (fun i:Nat=>[(12,iv i)]) (fun _=>[]) (fun i=>i≤n.kids.length∧∀ j,j<i→(!(decide ((j:Int)<first) && !inK (kidK l n j) 17 22 || decide (first≤(j:Int)) && kidK l n j != 16))=true) (fun i=>n.kids.length - i) (0) (⟨by omega,fun j hj=>absurd hj (zj j)⟩) qa qa (fun _=>rfl) (by kernel_rfl) ?_;(conv=>whnf))
 intro i hi
 (repeat' ((conv=>whnf);first|refine Ob.auto ?_|refine zG 300 (fun hg=>qwq l n i (by omega) (by omega) hk) ?_|refine zG 300 (fun hg=>qwp _ _ _) ?_|(apply zB <;> intro hb <;> (try simp [-zd] at hb) <;> try (exfalso;omega))))
 ·refine Le.of_eq (congrArg AV.bool ?_)
  unfold exprsB
  rw [qrg (i:=i) (by omega) (by
   simp only [Bool.not_eq_false',zaa,zf,xd,zad,bne_iff_ne,ne_eq]
   exact hb)];rfl
 ·((conv=>whnf);refine ⟨i+1,⟨by omega,qbe hi.2 (by
   simp only [zad,xy,Bool.and_eq_false_imp,xd,Bool.not_eq_false',bne_eq_false_iff_eq]
   exact hb)⟩,⟨qa,qa⟩,⟨qa,qa⟩,?_⟩;(first|omega|(dsimp only;omega)|skip))
 ·refine Le.of_eq (congrArg AV.bool ?_)
  unfold exprsB
  rw [qju (fun j hj=>hi.2 j (by omega))];rfl
end Go.Proofs.YtikahnkkfkoglaaGreatDoor
end
section
namespace Go.Proofs.YtikahnkkfkoglaaGreatDoor
open Go.Sx Go.RowKit
set_option maxRecDepth 100000
theorem jef (c:Int):Con Tryz.prog 59 [.int .u8 c] (.bool (decide (48≤c) && decide (c≤57))):=jdy c
theorem jrg (c:Int):Con Tryz.prog 57 [.int .u8 c] (.bool (decide (65≤c) && decide (c≤90) || decide (97≤c) && decide (c≤122))):=qwo c
theorem jeg (l:List UInt8) (c:Int) (hl:l.length≤1000):Con Tryz.prog 55 [.str l,.int .u8 c] (.bool (Lx.hasB l c)):=by
 refine zK {} 100 Tryz.func55 (fun c0 rdb=>?_)
 (conv=>whnf);refine qji (fun _=>rfl) 100 1 (fun k:Nat=>⟨[(0,.str l),(1,.int .u8 c),(5,.int .i64 k)],[],0⟩)
  (fun k=>k≤l.length∧Lx.hasB (l.take k) c=false) (fun k=>l.length - k) 0 ⟨by omega,by simp [Lx.hasB]⟩ subA (fun _=>rfl) (by kernel_rfl) ?_
 rintro k ⟨hk,hf⟩
 repeat' ((conv=>whnf);first|refine Ob.auto ?_|(apply zB <;> intro hb <;> (try simp at hb) <;> try (exfalso;omega)))
 ·have h1:=Lx.hasB_step (by assumption) c
  refine Le.of_eq (congrArg AV.bool ?_)
  rw [hb,beq_self_eq_true,Bool.or_true] at h1
  exact (Lx.hasB_take h1).symm
 ·(conv=>whnf);refine Exists.intro (k+1) ⟨⟨by omega,?_⟩,subA,by omega⟩
  rw [Lx.hasB_step (by assumption) c,hf]
  simpa using hb
 ·rw [List.take_of_length_le (by omega)] at hf
  exact Le.of_eq (by rw [hf])
theorem jrh (c:Int):Con Tryz.prog 58 [.int .u8 c] (.bool (Lx.wordC c)):=jdz c
theorem qsf (s:List UInt8) (i:Nat) (hi:i≤s.length) (hs:s.length≤1000000):Con Tryz.prog 56 [.str s,.int .i64 i] (.str (Lx.twoL (s.drop i))):=by
 refine zK {} 100 Tryz.func56 (fun c0 rdb=>?_)
 repeat' ((conv=>whnf);first|refine Ob.auto ?_|(apply zB <;> intro hb <;> (try simp at hb) <;> try (exfalso;omega)))
 ·refine Le.of_eq (congrArg AV.str ?_)
  rw [Lx.twoL,xg,zb (by omega),show ((i:Int)+2).toNat=i+2 by omega,zy,zbj,zai]
 ·refine Le.of_eq (congrArg AV.str ?_)
  rw [Lx.twoL,xg,za (by omega)]
end Go.Proofs.YtikahnkkfkoglaaGreatDoor
end
