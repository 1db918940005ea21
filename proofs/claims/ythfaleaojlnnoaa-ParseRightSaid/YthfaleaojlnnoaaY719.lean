/- Some texts of the library, one behind the other. -/
import Derived.Test.YthfaleaojlnnoaaY7PcC
import Derived.Test.YthfaleaojlnnoaaY712
import Derived.Test.YthfaleaojlnnoaaY72
set_option linter.unusedSimpArgs false
set_option linter.unusedVariables false
section
namespace Go.Proofs.Ythfaleaojlnnoaa
open Go Go.Sx Go.RowKit Go.St Pa
set_option maxRecDepth 100000
set_option maxHeartbeats 4000000
theorem qlf (n:Int) (s:List UInt8) (h0:0≤n) (h5:n≤5):Con Try.prog 88 [iv n,.str s] (iv (opF n s)):=by
 refine zK {} 300 Try.func88 (fun c0 rdb=>?_)
 (repeat' ((conv=>whnf);first|refine zA ?_|refine zO ?_|refine Ob.auto ?_|refine zC 300 (qle _) ?_|refine zG 300 (fun hg=>qle _) ?_|(refine CallY.con (qle _) (by rfl) leA ?_)|(refine CallZ.con (fun hg=>qle _) qn (by rfl) ?_)|(refine ql (fun _=>rfl) 300 (qle _) qc (by (repeat' (first|exact trivial|exact Le.refl _|(refine And.intro ?_ ?_))) <;> fail) (by rfl) (by kernel_rfl) ?_)|(refine qp (fun _=>rfl) 300 (fun hg=>qle _) (fun hg=>qc) (fun hg=>(by (repeat' (first|exact trivial|exact Le.refl _|exact Le.cnd hg|(refine And.intro ?_ ?_))) <;> fail)) (by rfl) (by kernel_rfl) ?_)|refine zD 300 ?_|(apply zB <;> intro hb <;> (try simp [-List.getD_eq_getElem?_getD] at hb) <;> try (exfalso;omega))|refine Ob.intro ?_ ?_))
 all_goals
  refine Le.of_eq (congrArg (AV.int _) ?_)
  simp only [opF]
  (repeat' split) <;> first|rfl|omega|(exfalso;simp_all;done)|simp_all
end Go.Proofs.Ythfaleaojlnnoaa
end
section
namespace Go.Proofs.Ythfaleaojlnnoaa
namespace Pa
open Go Go.Sx
def lvC (ts:List Lx.Tok) (n:Int) (p:Ps):Bool:=
 if n=0 then sees ts p sOr2 else if n=1 then sees ts p qpj else if n=2 then sees ts p sEq2 else if n=3 then sees ts p sLt else if n=4 then sumC ts p else qna ts p
def lvS (ts:List Lx.Tok) (n:Int) (p:Ps):Int:=
 if n=0 then 0 else if n=1 then 1 else if n=2 then 2 else if n=3 then 3 else if n=4 then sumS ts p else qpk ts p
def lvJ (ts:List Lx.Tok) (f:Ps→Tr × Ps) (n:Int) (k:Nat) (a:Tr) (r:Ps):Tr × Ps:=
 if n=2∨n=3 then (if lvC ts n r=true then (binT (lvS ts n r) a (f (adv r)).1,(f (adv r)).2) else (a,r)) else qbt f (lvC ts n) (lvS ts n) k a r
theorem jlv (ts:List Lx.Tok) (part:Ps→Tr × Ps) {n:Int} (h0:0≤n) (h5:n≤5) (p:Ps):qcq ts part n p=lvJ ts (qcq ts part (n+1)) n ts.length (qcq ts part (n+1) p).1 (qcq ts part (n+1) p).2:=by
 obtain rfl|rfl|rfl|rfl|rfl|rfl:n=0∨n=1∨n=2∨n=3∨n=4∨n=5:=by omega
 ·rfl
 ·rfl
 ·exact (zb (Or.inl rfl:(2:Int)=2∨(2:Int)=3)).symm
 ·exact (zb (Or.inr rfl:(3:Int)=2∨(3:Int)=3)).symm
 ·rfl
 ·rfl
theorem jlw {ts:List Lx.Tok} {f:Ps→Tr × Ps} {n:Int} {k:Nat} {a:Tr} {r:Ps} (h:lvC ts n r=true):lvJ ts f n (k+1) a r=if n=2∨n=3 then (binT (lvS ts n r) a (f (adv r)).1,(f (adv r)).2) else lvJ ts f n k (binT (lvS ts n r) a (f (adv r)).1) (f (adv r)).2:=by
 unfold lvJ
 by_cases hn:n=2∨n=3
 ·rw [zb hn,zb hn,zb h]
 ·rw [za hn,za hn,za hn,qbt,zb h]
theorem jal {ts:List Lx.Tok} {f:Ps→Tr × Ps} {n:Int} {k:Nat} {a:Tr} {r:Ps} (h:lvC ts n r=false):lvJ ts f n k a r=(a,r):=by
 unfold lvJ
 split
 ·rw [za (by rw [h];decide)]
 ·cases k with
  | zero=>rfl
  | succ k=>rw [qbt,za (by rw [h];decide)]
theorem jlx {n:Int} {s:List UInt8} (h0:0≤n) (h5:n≤5) (h:0≤opF n s):(opF n s=2∨opF n s=3↔n=2∨n=3):=by
 obtain rfl|rfl|rfl|rfl|rfl|rfl:n=0∨n=1∨n=2∨n=3∨n=4∨n=5:=by omega
 all_goals
  simp only [opF,Int.reduceEq,if_true,if_false] at h ⊢
  (repeat' split) <;> first|omega|(split at h <;> omega)|simp_all
section
variable {ts:List Lx.Tok} {p:Ps} (hk:TokK ts) (h:AtOk ts p) (he:p.err=0)
include hk h he
theorem lv_op {n:Int} (h0:0≤n) (h5:n≤5):lvC ts n p=decide (0≤opF n (tk ts p).s)∧(lvC ts n p=true→lvS ts n p=opF n (tk ts p).s):=by
 have key:∀ s,kwB s=true→sees ts p s=((tk ts p).s == s):=fun s hs=>qcx hk h he hs
 obtain rfl|rfl|rfl|rfl|rfl|rfl:n=0∨n=1∨n=2∨n=3∨n=4∨n=5:=by omega
 ·simp only [lvC,lvS,opF,if_true,key sOr2 (by decide +kernel)]
  split <;> simp [*]
 ·simp only [lvC,lvS,opF,Int.reduceEq,if_true,if_false,key qpj (by decide +kernel)]
  split <;> simp [*]
 ·simp only [lvC,lvS,opF,Int.reduceEq,if_true,if_false,key sEq2 (by decide +kernel)]
  split <;> simp [*]
 ·simp only [lvC,lvS,opF,Int.reduceEq,if_true,if_false,key sLt (by decide +kernel)]
  split <;> simp [*]
 ·simp only [lvC,lvS,opF,Int.reduceEq,if_true,if_false,sumC,sumS,key qmy (by decide +kernel),key qbf (by decide +kernel)]
  by_cases e1:(tk ts p).s=qmy
  ·simp [e1]
  ·by_cases e2:(tk ts p).s=qbf
   ·simp [e2]
   ·simp [e1,e2]
 ·simp only [lvC,lvS,opF,Int.reduceEq,if_true,if_false,qna,qpk,key qbl (by decide +kernel),key qmz (by decide +kernel),key sPct (by decide +kernel)]
  by_cases e1:(tk ts p).s=qbl
  ·simp [e1]
  ·by_cases e2:(tk ts p).s=qmz
   ·simp [e2]
   ·by_cases e3:(tk ts p).s=sPct
    ·simp [e3]
    ·simp [e1,e2,e3]
omit hk h he in
theorem jam {n:Int} (h0:0≤n) (h5:n≤5) (hc:lvC ts n p=true):∃ s,sees ts p s=true:=by
 obtain rfl|rfl|rfl|rfl|rfl|rfl:n=0∨n=1∨n=2∨n=3∨n=4∨n=5:=by omega
 ·exact ⟨_,hc⟩
 ·exact ⟨_,hc⟩
 ·exact ⟨_,hc⟩
 ·exact ⟨_,hc⟩
 ·exact qne hc
 ·exact qnd hc
end
theorem jly {ts:List Lx.Tok} (ht:ToksOk ts) {part:Ps→Tr × Ps} (hp:Runs ts part) {n:Int} (h0:0≤n) (h5:n≤6):Runs ts (qcq ts part n):=by
 obtain rfl|rfl|rfl|rfl|rfl|rfl|rfl:n=0∨n=1∨n=2∨n=3∨n=4∨n=5∨n=6:=by omega
 ·exact qkv ht hp
 ·exact qku ht hp
 ·exact qkt ht hp
 ·exact qpo ht hp
 ·exact qpn ht hp
 ·exact qks ht hp
 ·exact hp
theorem jlz {ts:List Lx.Tok} (ht:ToksOk ts) {f:Ps→Tr × Ps} (hf:Runs ts f) {n:Int} (h0:0≤n) (h5:n≤5) (k:Nat) (a:Tr) (r:Ps) (hr:AtOk ts r) (hn:¬ (n=2∨n=3)):Step ts r (lvJ ts f n k a r).2:=by
 unfold lvJ
 rw [za hn]
 refine qgb ht hf (fun q hq=>?_) k a r hr
 obtain rfl|rfl|rfl|rfl:n=0∨n=1∨n=4∨n=5:=by omega
 ·exact ⟨_,hq⟩
 ·exact ⟨_,hq⟩
 ·exact qne hq
 ·exact qnd hq
end Pa
end Go.Proofs.Ythfaleaojlnnoaa
end
