/- Contracts: words, within, numbers, sort, all, are of parse.Right. -/
import Derived.Test.YthfaleaojlnnoaaY7RgP
import Derived.Test.YthfaleaojlnnoaaY714
import Derived.Test.YthfaleaojlnnoaaY78
import Derived.Test.YthfaleaojlnnoaaY72
set_option linter.unusedSimpArgs false
set_option linter.unusedVariables false
namespace Go.Proofs.Ythfaleaojlnnoaa
open List renaming getD_eq_getElem?_getD → zd
open Go Go.Sx Go.RowKit Go.St
set_option maxRecDepth 100000
set_option maxHeartbeats 4000000
theorem qam {α:Type} {n sz:Nat} {f:Nat→List AV} {enc:α→List AV} {d:α} {l:List α} (hl:l.length=n) (h:(List.range n).map f=l.map enc):Le (.slc sz n f) (slcL enc d sz l):=by
 subst hl
 refine Le.slc rfl fun i hi=>?_
 have:=congrArg (fun x=>x[i]?) h
 simp only [zg,List.getElem?_range hi,ze hi,xe,Option.some.injEq] at this
 unfold encL
 rw [zd,ze hi]
 exact this
theorem qlq (s:List UInt8):Con Try.prog 72 [.str s] (.bool (nameF s)):=by
 by_cases hs:s.length≤1000000
 ·exact qjf s hs
 rw [show nameF s=false by unfold nameF;rw [xw (show 12<s.length by omega)];simp]
 have hpos:∀ x:Bool,(!(s == []) && x)=true→0<s.length:=by
  intro x h
  cases s with
  | nil=>simp at h
  | cons b r=>simp
 have hk:∀ x:Bool,(!(s == []) && decide ((s.length:Int)≤12) && x)=true→False:=by
  intro x h
  simp only [zf,zo] at h
  omega
 refine zK {} 300 Try.func72 (fun c0 rdb=>?_)
 repeat' ((conv=>whnf);first|(refine Ob.intro (fun h=>⟨h,by omega,by have:=hpos _ h;omega⟩) ?_)|(refine Ob.intro (by first|rfl|exact fun h=>h|exact fun h=>⟨h,trivial⟩|exact fun h=>⟨h,h,trivial⟩) ?_))
 ((conv=>whnf);refine qcn (fun _=>rfl) 300 (fun _=>qnk (qcl s 0)) (by rfl) (fun hg=>by repeat' (first|exact trivial|exact Le.refl _|exact Le.cnd hg|(refine And.intro ?_ ?_))) (by kernel_rfl) ?_)
 repeat' ((conv=>whnf);first|refine Ob.auto ?_|refine Ob.intro ?_ ?_)
 (conv=>whnf)
 refine qcn (fun _=>rfl) 300 (fun hg=>absurd (show (!(s == []) && decide ((s.length:Int)≤12) && _)=true from hg) (hk _):_→Con Try.prog _ [.str s,Lx.ints [2,3,4]] (iv 0)) (by rfl) (fun hg=>absurd hg (hk _)) (by kernel_rfl) ?_
 repeat' ((conv=>whnf);first|refine Ob.auto ?_|refine Ob.intro ?_ ?_)
 ((conv=>whnf);refine qcn (fun _=>rfl) 300 (fun _=>qdu s) (by rfl) (fun hg=>by repeat' (first|exact trivial|exact Le.refl _|exact Le.cnd hg|(refine And.intro ?_ ?_))) (by kernel_rfl) ?_)
 repeat' ((conv=>whnf);first|refine Ob.auto ?_|refine Ob.intro ?_ ?_)
 refine Le.of_eq (congrArg AV.bool ?_)
 rw [zt (show ¬ (s.length:Int)≤12 by omega)]
 simp
theorem qem (n:Nd) (hn:NdSz n):Con Try.prog 44 [.agg n.cells] (.bool (qg n (cntW n.kind))):=by
 have hl:=hn.lw
 refine zK {} 300 Try.func44 (fun c0 rdb=>?_)
 (repeat' ((conv=>whnf);first|refine zA ?_|refine zO ?_|refine Ob.auto ?_|refine zD 300 ?_|(apply zB <;> intro hb <;> (try simp [-zd] at hb) <;> try (exfalso;omega))|refine Ob.intro ?_ ?_))
 all_goals
  have hc:∃ c,cntW n.kind=c:=⟨_,rfl⟩
  try (have hc:cntW n.kind=1:=by unfold cntW;rw [zb (by omega)])
  try (have hc:cntW n.kind=2:=by unfold cntW;rw [za (by omega),zb (by omega)])
  try (have hc:cntW n.kind=0:=by unfold cntW;rw [za (by omega),za (by omega)])
  rw [hc]
  (repeat' ((conv=>whnf);first|refine zA ?_|refine zO ?_|refine Ob.auto ?_|refine zD 300 ?_|(apply zB <;> intro hb <;> (try simp [-zd] at hb) <;> try (exfalso;omega))|refine Ob.intro ?_ ?_))
  ((conv=>whnf);refine qbb (fun _=>rfl) 300 1 (fun i:Nat=>[(21,iv i)]) (fun _=>[]) (fun i=>i≤n.words.length∧∀ j,j<i→nameF (n.words.getD j [])=true) (fun i=>n.words.length - i) (0) (⟨by omega,fun j hj=>absurd hj (zv j)⟩) qa qa (fun _=>rfl) (by kernel_rfl) ?_;(conv=>whnf))
  intro i hi
  (repeat' ((conv=>whnf);first|refine zA ?_|refine zO ?_|refine Ob.auto ?_|refine zI ?_|refine zC 300 (qlq _) ?_|refine zG 300 (fun hg=>qlq _) ?_|(refine CallY.con (qlq _) (by rfl) leA ?_)|(refine CallZ.con (fun hg=>qlq _) qn (by rfl) ?_)|(refine ql (fun _=>rfl) 300 (qlq _) qc (by (repeat' (first|exact trivial|exact Le.refl _|(refine And.intro ?_ ?_))) <;> fail) (by rfl) (by kernel_rfl) ?_)|(refine qp (fun _=>rfl) 300 (fun hg=>qlq _) (fun hg=>qc) (fun hg=>(by (repeat' (first|exact trivial|exact Le.refl _|exact Le.cnd hg|(refine And.intro ?_ ?_))) <;> fail)) (by rfl) (by kernel_rfl) ?_)|refine zD 300 ?_|(apply zB <;> intro hb <;> (try simp [-zd] at hb) <;> try (exfalso;omega))|refine Ob.intro ?_ ?_))
  ·refine Le.of_eq (congrArg AV.bool ?_)
   unfold qg
   rw [qmv (q:=nameF) [] (j:=i) (by omega) (by assumption)];rfl
  ·((conv=>whnf);refine ⟨i+1,⟨by omega,qea hi.2 (by assumption)⟩,⟨qa,qa⟩,⟨qa,qa⟩,?_⟩;(first|omega|(dsimp only;omega)|skip))
  ·refine Le.of_eq (congrArg AV.bool ?_)
   unfold qg
   rw [qmu (q:=nameF) [] (fun j hj=>hi.2 j (by omega))];rfl
def jco (bs:List (Int × Int)):AV:=slcL (fun b:Int × Int=>[iv b.1,iv b.2]) (0,0) 2 bs
theorem qen (ns:List Int) (hn:ns.length≤9223372036854775807) (bs:List (Int × Int)) (hb:bs.length≤10):Con Try.prog 73 [ints ns,jco bs] (.bool (jo ns bs)):=by
 refine zK {} 300 Try.func73 (fun c0 rdb=>?_)
 (repeat' ((conv=>whnf);first|refine zA ?_|refine zO ?_|refine Ob.auto ?_|refine zD 300 ?_|(apply zB <;> intro hb <;> (try simp [-zd] at hb) <;> try (exfalso;omega))|refine Ob.intro ?_ ?_))
 ·refine Le.of_eq (congrArg AV.bool ?_)
  unfold jo
  rw [zt (by omega)];rfl
 have hle:ns.length=bs.length:=by omega
 ((conv=>whnf);refine qbb (fun _=>rfl) 300 1 (fun i:Nat=>[(14,iv i),(0,ints ns),(12,jco bs)]) (fun _=>[]) (fun i=>i≤bs.length∧∀ j,j<i→(decide ((bs.getD j (0,0)).1≤ns.getD j 0) && decide (ns.getD j 0≤(bs.getD j (0,0)).2))=true) (fun i=>bs.length - i) (0) (⟨by omega,fun j hj=>absurd hj (zv j)⟩) qa qa (fun _=>rfl) (by kernel_rfl) ?_;(conv=>whnf))
 intro i hi
 (repeat' ((conv=>whnf);first|refine zA ?_|refine zO ?_|refine Ob.auto ?_|refine zI ?_|refine zD 300 ?_|(apply zB <;> intro hb <;> (try simp [-zd] at hb) <;> try (exfalso;omega))|refine Ob.intro ?_ ?_))
 ·refine Le.of_eq (congrArg AV.bool ?_)
  unfold jo
  rw [xw hle,zan,qmw (q:=fun i=>decide ((bs.getD i (0,0)).1≤ns.getD i 0) && decide (ns.getD i 0≤(bs.getD i (0,0)).2)) (i:=i) (by omega) (by simp only [Bool.and_eq_false_iff,decide_eq_false_iff_not];omega)]
 ·((conv=>whnf);refine ⟨i+1,⟨by omega,qea hi.2 (by simp only [zf,zo];omega)⟩,⟨qa,qa⟩,⟨qa,qa⟩,?_⟩;(first|omega|(dsimp only;omega)|skip))
 ·refine Le.of_eq (congrArg AV.bool ?_)
  unfold jo
  rw [xw hle,zan,qmx (q:=fun i=>decide ((bs.getD i (0,0)).1≤ns.getD i 0) && decide (ns.getD i 0≤(bs.getD i (0,0)).2)) (fun j hj=>hi.2 j (by omega))]
theorem qeo (n:Nd) (hn:NdSz n):Con Try.prog 45 [.agg n.cells] (.bool (jo n.nums (bndF n.kind))):=by
 have hl:=hn.ln
 refine zK {} 300 Try.func45 (fun c0 rdb=>?_)
 (repeat' ((conv=>whnf);first|refine zA ?_|refine zO ?_|refine Ob.auto ?_|(refine qau (fun _=>rfl) 300 (qen n.nums hl [(0,999999),(0,999999),(0,1),(0,1)] (by decide)) (by rfl) ?_ (by kernel_rfl) ?_;(first|exact ⟨Le.refl _,qam rfl rfl,trivial⟩|exact ⟨Le.refl _,Le.nils _ _,trivial⟩))|(refine qcn (fun _=>rfl) 300 (fun hg=>qen n.nums hl [(0,999999),(0,999999),(0,1),(0,1)] (by decide)) (by rfl) ?_ (by kernel_rfl) ?_;(first|exact fun hg=>⟨Le.cnd hg,Le.trans (Le.cnd hg) (qam rfl rfl),trivial⟩|exact fun hg=>⟨Le.cnd hg,qam rfl rfl,trivial⟩))|(refine qau (fun _=>rfl) 300 (qen n.nums hl [(0,999999),(-999999,999999)] (by decide)) (by rfl) ?_ (by kernel_rfl) ?_;(first|exact ⟨Le.refl _,qam rfl rfl,trivial⟩|exact ⟨Le.refl _,Le.nils _ _,trivial⟩))|(refine qcn (fun _=>rfl) 300 (fun hg=>qen n.nums hl [(0,999999),(-999999,999999)] (by decide)) (by rfl) ?_ (by kernel_rfl) ?_;(first|exact fun hg=>⟨Le.cnd hg,Le.trans (Le.cnd hg) (qam rfl rfl),trivial⟩|exact fun hg=>⟨Le.cnd hg,qam rfl rfl,trivial⟩))|(refine qau (fun _=>rfl) 300 (qen n.nums hl [(0,999999)] (by decide)) (by rfl) ?_ (by kernel_rfl) ?_;(first|exact ⟨Le.refl _,qam rfl rfl,trivial⟩|exact ⟨Le.refl _,Le.nils _ _,trivial⟩))|(refine qcn (fun _=>rfl) 300 (fun hg=>qen n.nums hl [(0,999999)] (by decide)) (by rfl) ?_ (by kernel_rfl) ?_;(first|exact fun hg=>⟨Le.cnd hg,Le.trans (Le.cnd hg) (qam rfl rfl),trivial⟩|exact fun hg=>⟨Le.cnd hg,qam rfl rfl,trivial⟩))|(refine qau (fun _=>rfl) 300 (qen n.nums hl [(0,1)] (by decide)) (by rfl) ?_ (by kernel_rfl) ?_;(first|exact ⟨Le.refl _,qam rfl rfl,trivial⟩|exact ⟨Le.refl _,Le.nils _ _,trivial⟩))|(refine qcn (fun _=>rfl) 300 (fun hg=>qen n.nums hl [(0,1)] (by decide)) (by rfl) ?_ (by kernel_rfl) ?_;(first|exact fun hg=>⟨Le.cnd hg,Le.trans (Le.cnd hg) (qam rfl rfl),trivial⟩|exact fun hg=>⟨Le.cnd hg,qam rfl rfl,trivial⟩))|(refine qau (fun _=>rfl) 300 (qen n.nums hl [(0,8)] (by decide)) (by rfl) ?_ (by kernel_rfl) ?_;(first|exact ⟨Le.refl _,qam rfl rfl,trivial⟩|exact ⟨Le.refl _,Le.nils _ _,trivial⟩))|(refine qcn (fun _=>rfl) 300 (fun hg=>qen n.nums hl [(0,8)] (by decide)) (by rfl) ?_ (by kernel_rfl) ?_;(first|exact fun hg=>⟨Le.cnd hg,Le.trans (Le.cnd hg) (qam rfl rfl),trivial⟩|exact fun hg=>⟨Le.cnd hg,qam rfl rfl,trivial⟩))|(refine qau (fun _=>rfl) 300 (qen n.nums hl [] (by decide)) (by rfl) ?_ (by kernel_rfl) ?_;(first|exact ⟨Le.refl _,qam rfl rfl,trivial⟩|exact ⟨Le.refl _,Le.nils _ _,trivial⟩))|(refine qcn (fun _=>rfl) 300 (fun hg=>qen n.nums hl [] (by decide)) (by rfl) ?_ (by kernel_rfl) ?_;(first|exact fun hg=>⟨Le.cnd hg,Le.trans (Le.cnd hg) (qam rfl rfl),trivial⟩|exact fun hg=>⟨Le.cnd hg,qam rfl rfl,trivial⟩))|refine zD 300 ?_|(apply zB <;> intro hb <;> (try simp [-zd] at hb) <;> try (exfalso;omega))|refine Ob.intro ?_ ?_))
 all_goals
  refine Le.of_eq (congrArg AV.bool (congrArg (jo n.nums) ?_))
  unfold bndF
  repeat (first|rw [zb (by omega)]|rw [za (by omega)])
theorem qep (k:Int):Con Try.prog 96 [iv k] (iv (qak k)):=by
 refine zK {} 300 Try.func96 (fun c0 rdb=>?_)
 (repeat' ((conv=>whnf);first|refine zA ?_|refine zO ?_|refine Ob.auto ?_|refine zD 300 ?_|(apply zB <;> intro hb <;> (try simp [-zd] at hb) <;> try (exfalso;omega))|refine Ob.intro ?_ ?_))
 all_goals
  refine Le.of_eq (congrArg (AV.int .i64) ?_)
  unfold qak
  repeat (first|rw [zb (by omega)]|rw [za (by omega)])
theorem qcz (ks:List Int) (hk:ks.length≤9223372036854775807) (s:Int):Con Try.prog 74 [ints ks,iv s] (.bool (allK ks s)):=by
 refine zK {} 300 Try.func74 (fun c0 rdb=>?_)
 (repeat' ((conv=>whnf);first|refine zA ?_|refine zO ?_|refine Ob.auto ?_|refine zD 300 ?_|(apply zB <;> intro hb <;> (try simp [-zd] at hb) <;> try (exfalso;omega))|refine Ob.intro ?_ ?_))
 ((conv=>whnf);refine qbb (fun _=>rfl) 300 1 (fun i:Nat=>[(9,iv i),(7,ints ks)]) (fun _=>[]) (fun i=>i≤ks.length∧∀ j,j<i→(qak (ks.getD j 0) == s)=true) (fun i=>ks.length - i) (0) (⟨by omega,fun j hj=>absurd hj (zv j)⟩) qa qa (fun _=>rfl) (by kernel_rfl) ?_;(conv=>whnf))
 intro i hi
 (repeat' ((conv=>whnf);first|refine zA ?_|refine zO ?_|refine Ob.auto ?_|refine zI ?_|refine zC 300 (qep _) ?_|refine zG 300 (fun hg=>qep _) ?_|(refine CallY.con (qep _) (by rfl) leA ?_)|(refine CallZ.con (fun hg=>qep _) qn (by rfl) ?_)|(refine ql (fun _=>rfl) 300 (qep _) qc (by (repeat' (first|exact trivial|exact Le.refl _|(refine And.intro ?_ ?_))) <;> fail) (by rfl) (by kernel_rfl) ?_)|(refine qp (fun _=>rfl) 300 (fun hg=>qep _) (fun hg=>qc) (fun hg=>(by (repeat' (first|exact trivial|exact Le.refl _|exact Le.cnd hg|(refine And.intro ?_ ?_))) <;> fail)) (by rfl) (by kernel_rfl) ?_)|refine zD 300 ?_|(apply zB <;> intro hb <;> (try simp [-zd] at hb) <;> try (exfalso;omega))|refine Ob.intro ?_ ?_))
 ·refine Le.of_eq (congrArg AV.bool ?_)
  unfold allK
  rw [qmv (q:=fun k=>qak k == s) 0 (j:=i) (by omega) (beq_eq_false_iff_ne.2 (by assumption))]
 ·((conv=>whnf);refine ⟨i+1,⟨by omega,qea hi.2 (beq_iff_eq.2 (by assumption))⟩,⟨qa,qa⟩,⟨qa,qa⟩,?_⟩;(first|omega|(dsimp only;omega)|skip))
 ·refine Le.of_eq (congrArg AV.bool ?_)
  unfold allK
  rw [qmu (q:=fun k=>qak k == s) 0 (fun j hj=>hi.2 j (by omega))]
theorem qgg (ks ss:List Int) (hk:ks.length≤9223372036854775807) (hs:ss.length≤10):Con Try.prog 75 [ints ks,ints ss] (.bool (areK ks ss)):=by
 refine zK {} 300 Try.func75 (fun c0 rdb=>?_)
 (repeat' ((conv=>whnf);first|refine zA ?_|refine zO ?_|refine Ob.auto ?_|refine zD 300 ?_|(apply zB <;> intro hb <;> (try simp [-zd] at hb) <;> try (exfalso;omega))|refine Ob.intro ?_ ?_))
 ·refine Le.of_eq (congrArg AV.bool ?_)
  unfold areK
  rw [zt (by omega)];rfl
 have hle:ks.length=ss.length:=by omega
 ((conv=>whnf);refine qbb (fun _=>rfl) 300 1 (fun i:Nat=>[(14,iv i),(0,ints ks),(12,ints ss)]) (fun _=>[]) (fun i=>i≤ss.length∧∀ j,j<i→(qak (ks.getD j 0) == ss.getD j 0)=true) (fun i=>ss.length - i) (0) (⟨by omega,fun j hj=>absurd hj (zv j)⟩) qa qa (fun _=>rfl) (by kernel_rfl) ?_;(conv=>whnf))
 intro i hi
 (repeat' ((conv=>whnf);first|refine zA ?_|refine zO ?_|refine Ob.auto ?_|refine zI ?_|refine zC 300 (qep _) ?_|refine zG 300 (fun hg=>qep _) ?_|(refine CallY.con (qep _) (by rfl) leA ?_)|(refine CallZ.con (fun hg=>qep _) qn (by rfl) ?_)|(refine ql (fun _=>rfl) 300 (qep _) qc (by (repeat' (first|exact trivial|exact Le.refl _|(refine And.intro ?_ ?_))) <;> fail) (by rfl) (by kernel_rfl) ?_)|(refine qp (fun _=>rfl) 300 (fun hg=>qep _) (fun hg=>qc) (fun hg=>(by (repeat' (first|exact trivial|exact Le.refl _|exact Le.cnd hg|(refine And.intro ?_ ?_))) <;> fail)) (by rfl) (by kernel_rfl) ?_)|refine zD 300 ?_|(apply zB <;> intro hb <;> (try simp [-zd] at hb) <;> try (exfalso;omega))|refine Ob.intro ?_ ?_))
 ·refine Le.of_eq (congrArg AV.bool ?_)
  unfold areK
  rw [xw hle,zan,qmw (q:=fun i=>qak (ks.getD i 0) == ss.getD i 0) (i:=i) (by omega) (beq_eq_false_iff_ne.2 (by assumption))]
 ·((conv=>whnf);refine ⟨i+1,⟨by omega,qea hi.2 (beq_iff_eq.2 (by assumption))⟩,⟨qa,qa⟩,⟨qa,qa⟩,?_⟩;(first|omega|(dsimp only;omega)|skip))
 ·refine Le.of_eq (congrArg AV.bool ?_)
  unfold areK
  rw [xw hle,zan,qmx (q:=fun i=>qak (ks.getD i 0) == ss.getD i 0) (fun j hj=>hi.2 j (by omega))]
end Go.Proofs.Ythfaleaojlnnoaa
