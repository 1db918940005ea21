/- Some texts of the library, one behind the other. -/
import Derived.Test.YthfaleaojlnnoaaY1PcC
import Derived.Test.YthfaleaojlnnoaaY111
import Derived.Test.YthfaleaojlnnoaaY12
set_option linter.unusedSimpArgs false
set_option linter.unusedVariables false
section
namespace Go.Proofs.Ythfaleaojlnnoaa
open Go Go.Sx Go.RowKit Go.St Pa
set_option maxRecDepth 100000
set_option maxHeartbeats 4000000
theorem qkg (n:Int) (s:List UInt8) (h0:0≤n) (h5:n≤5):Con Try.prog 88 [iv n,.str s] (iv (opF n s)):=by
 refine zK {} 300 Try.func88 (fun c0 rdb=>?_)
 (repeat' ((conv=>whnf);first|refine zA ?_|refine zO ?_|refine Ob.auto ?_|refine zC 300 (qkf _) ?_|refine zG 300 (fun hg=>qkf _) ?_|(refine CallY.con (qkf _) (by rfl) leA ?_)|(refine CallZ.con (fun hg=>qkf _) qz (by rfl) ?_)|(refine qq (fun _=>rfl) 300 (qkf _) qc (by (repeat' (first|exact trivial|exact Le.refl _|(refine And.intro ?_ ?_))) <;> fail) (by rfl) (by kernel_rfl) ?_)|(refine ja (fun _=>rfl) 300 (fun hg=>qkf _) (fun hg=>qc) (fun hg=>(by (repeat' (first|exact trivial|exact Le.refl _|exact Le.cnd hg|(refine And.intro ?_ ?_))) <;> fail)) (by rfl) (by kernel_rfl) ?_)|refine zD 300 ?_|(apply zB <;> intro hb <;> (try simp [-List.getD_eq_getElem?_getD] at hb) <;> try (exfalso;omega))|refine Ob.intro ?_ ?_))
 all_goals
  refine Le.of_eq (congrArg (AV.int _) ?_)
  simp only [opF]
  (repeat' split) <;> first|rfl|omega|(exfalso;simp_all;done)|simp_all
end Go.Proofs.Ythfaleaojlnnoaa
end
section
namespace Go.Proofs.Ythfaleaojlnnoaa
namespace Pa
open Go Go.Sx
def lvC (ts:List Lx.Tok) (n:Int) (p:Ps):Bool:=
 if n=0 then sees ts p sOr2 else if n=1 then sees ts p qof else if n=2 then sees ts p sEq2 else if n=3 then sees ts p sLt else if n=4 then sumC ts p else qma ts p
def lvS (ts:List Lx.Tok) (n:Int) (p:Ps):Int:=
 if n=0 then 0 else if n=1 then 1 else if n=2 then 2 else if n=3 then 3 else if n=4 then sumS ts p else qog ts p
def lvJ (ts:List Lx.Tok) (f:Ps→Tr × Ps) (n:Int) (k:Nat) (a:Tr) (r:Ps):Tr × Ps:=
 if n=2∨n=3 then (if lvC ts n r=true then (binT (lvS ts n r) a (f (adv r)).1,(f (adv r)).2) else (a,r)) else qbq f (lvC ts n) (lvS ts n) k a r
theorem jjg (ts:List Lx.Tok) (part:Ps→Tr × Ps) {n:Int} (h0:0≤n) (h5:n≤5) (p:Ps):qcj ts part n p=lvJ ts (qcj ts part (n+1)) n ts.length (qcj ts part (n+1) p).1 (qcj ts part (n+1) p).2:=by
 obtain rfl|rfl|rfl|rfl|rfl|rfl:n=0∨n=1∨n=2∨n=3∨n=4∨n=5:=by omega
 ·rfl
 ·rfl
 ·exact (zb (Or.inl rfl:(2:Int)=2∨(2:Int)=3)).symm
 ·exact (zb (Or.inr rfl:(3:Int)=2∨(3:Int)=3)).symm
 ·rfl
 ·rfl
theorem jjh {ts:List Lx.Tok} {f:Ps→Tr × Ps} {n:Int} {k:Nat} {a:Tr} {r:Ps} (h:lvC ts n r=true):lvJ ts f n (k+1) a r=if n=2∨n=3 then (binT (lvS ts n r) a (f (adv r)).1,(f (adv r)).2) else lvJ ts f n k (binT (lvS ts n r) a (f (adv r)).1) (f (adv r)).2:=by
 unfold lvJ
 by_cases hn:n=2∨n=3
 ·rw [zb hn,zb hn,zb h]
 ·rw [za hn,za hn,za hn,qbq,zb h]
theorem qyo {ts:List Lx.Tok} {f:Ps→Tr × Ps} {n:Int} {k:Nat} {a:Tr} {r:Ps} (h:lvC ts n r=false):lvJ ts f n k a r=(a,r):=by
 unfold lvJ
 split
 ·rw [za (by rw [h];decide)]
 ·cases k with
  | zero=>rfl
  | succ k=>rw [qbq,za (by rw [h];decide)]
theorem jji {n:Int} {s:List UInt8} (h0:0≤n) (h5:n≤5) (h:0≤opF n s):(opF n s=2∨opF n s=3↔n=2∨n=3):=by
 obtain rfl|rfl|rfl|rfl|rfl|rfl:n=0∨n=1∨n=2∨n=3∨n=4∨n=5:=by omega
 all_goals
  simp only [opF,Int.reduceEq,if_true,if_false] at h ⊢
  (repeat' split) <;> first|omega|(split at h <;> omega)|simp_all
section
variable {ts:List Lx.Tok} {p:Ps} (hk:TokK ts) (h:AtOk ts p) (he:p.err=0)
include hk h he
theorem lv_op {n:Int} (h0:0≤n) (h5:n≤5):lvC ts n p=decide (0≤opF n (tk ts p).s)∧(lvC ts n p=true→lvS ts n p=opF n (tk ts p).s):=by
 have key:∀ s,kwB s=true→sees ts p s=((tk ts p).s == s):=fun s hs=>qcn hk h he hs
 obtain rfl|rfl|rfl|rfl|rfl|rfl:n=0∨n=1∨n=2∨n=3∨n=4∨n=5:=by omega
 ·simp only [lvC,lvS,opF,if_true,key sOr2 (by decide +kernel)]
  split <;> simp [*]
 ·simp only [lvC,lvS,opF,Int.reduceEq,if_true,if_false,key qof (by decide +kernel)]
  split <;> simp [*]
 ·simp only [lvC,lvS,opF,Int.reduceEq,if_true,if_false,key sEq2 (by decide +kernel)]
  split <;> simp [*]
 ·simp only [lvC,lvS,opF,Int.reduceEq,if_true,if_false,key sLt (by decide +kernel)]
  split <;> simp [*]
 ·simp only [lvC,lvS,opF,Int.reduceEq,if_true,if_false,sumC,sumS,key qly (by decide +kernel),key qba (by decide +kernel)]
  by_cases e1:(tk ts p).s=qly
  ·simp [e1]
  ·by_cases e2:(tk ts p).s=qba
   ·simp [e2]
   ·simp [e1,e2]
 ·simp only [lvC,lvS,opF,Int.reduceEq,if_true,if_false,qma,qog,key qbg (by decide +kernel),key qlz (by decide +kernel),key sPct (by decide +kernel)]
  by_cases e1:(tk ts p).s=qbg
  ·simp [e1]
  ·by_cases e2:(tk ts p).s=qlz
   ·simp [e2]
   ·by_cases e3:(tk ts p).s=sPct
    ·simp [e3]
    ·simp [e1,e2,e3]
omit hk h he in
theorem qyp {n:Int} (h0:0≤n) (h5:n≤5) (hc:lvC ts n p=true):∃ s,sees ts p s=true:=by
 obtain rfl|rfl|rfl|rfl|rfl|rfl:n=0∨n=1∨n=2∨n=3∨n=4∨n=5:=by omega
 ·exact ⟨_,hc⟩
 ·exact ⟨_,hc⟩
 ·exact ⟨_,hc⟩
 ·exact ⟨_,hc⟩
 ·exact qme hc
 ·exact qmd hc
end
theorem jjj {ts:List Lx.Tok} (ht:ToksOk ts) {part:Ps→Tr × Ps} (hp:Runs ts part) {n:Int} (h0:0≤n) (h5:n≤6):Runs ts (qcj ts part n):=by
 obtain rfl|rfl|rfl|rfl|rfl|rfl|rfl:n=0∨n=1∨n=2∨n=3∨n=4∨n=5∨n=6:=by omega
 ·exact qjw ht hp
 ·exact qjv ht hp
 ·exact qju ht hp
 ·exact qok ht hp
 ·exact qoj ht hp
 ·exact qjt ht hp
 ·exact hp
theorem jjk {ts:List Lx.Tok} (ht:ToksOk ts) {f:Ps→Tr × Ps} (hf:Runs ts f) {n:Int} (h0:0≤n) (h5:n≤5) (k:Nat) (a:Tr) (r:Ps) (hr:AtOk ts r) (hn:¬ (n=2∨n=3)):Step ts r (lvJ ts f n k a r).2:=by
 unfold lvJ
 rw [za hn]
 refine qfl ht hf (fun q hq=>?_) k a r hr
 obtain rfl|rfl|rfl|rfl:n=0∨n=1∨n=4∨n=5:=by omega
 ·exact ⟨_,hq⟩
 ·exact ⟨_,hq⟩
 ·exact qme hq
 ·exact qmd hq
end Pa
end Go.Proofs.Ythfaleaojlnnoaa
end
