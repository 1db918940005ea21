/- Some texts of the library, one behind the other. -/
import Derived.Test.YtkhdldncbmkidaaY324
import Derived.Test.YtkhdldncbmkidaaY3Cn4
import Derived.Test.YtkhdldncbmkidaaY32
set_option linter.unusedSimpArgs false
set_option linter.unusedVariables false
section
namespace Go.Proofs.Ytkhdldncbmkidaa
open List renaming getD_eq_getElem?_getD → zd
open Go Go.Sx Go.RowKit Go.St Go.Cl
set_option maxRecDepth 100000
set_option maxHeartbeats 4000000
theorem qxw (cs:List (List Int)) (hl:cs.length≤1000000) (hm:∀ c∈cs,c.length≤1000000):Con Try.prog 39 [qak cs] (iv (qe cs)):=by
 refine zK {} 300 Try.func39 (fun c0 rdb=>?_)
 (repeat' ((conv=>whnf);first|refine zA ?_|refine zO ?_|refine Ob.auto ?_|refine zD 300 ?_|(apply zB <;> intro hb <;> (try simp [-zd] at hb) <;> try (exfalso;omega))|refine Ob.intro ?_ ?_))
 ((conv=>whnf);refine qw (fun _=>rfl) 300 1 (fun i:Nat=>[(10,iv i),(3,iv (qe (cs.take i)))]) (fun _=>[]) (fun i=>i≤cs.length) (fun i=>cs.length - i) (0) (zv _) qa qa (fun _=>rfl) (by kernel_rfl) ?_;(conv=>whnf))
 intro i hi
 by_cases hil:i<cs.length
 ·have hcl:=hm _ (qdc cs i [] hil)
  have hnx:=qxu cs i hil
  have hg:=qjq (cs.take i)
  generalize qe (cs.take i)=G at hnx hg ⊢
  obtain ⟨c,hcc⟩:∃ c,c=cs.getD i []:=⟨_,rfl⟩
  rw [← hcc] at hcl hnx
  (repeat' ((conv=>whnf);first|refine zA ?_|refine zO ?_|refine Ob.auto ?_|refine zI ?_|refine zD 300 ?_|(apply zB <;> intro hb <;> (try simp [-zd] at hb) <;> try (exfalso;omega))|refine Ob.intro ?_ ?_))
  ((conv=>whnf);refine qw (fun _=>rfl) 300 2 (fun k:Nat=>[(16,iv k),(3,iv (jh G (c.take k))),(9,iv cs.length),(8,qak cs)]) (fun _=>[]) (fun k=>k≤c.length) (fun k=>c.length - k) (0) (zv _) qa qa (fun _=>rfl) (by kernel_rfl) ?_;(conv=>whnf))
  intro k hk
  by_cases hkl:k<c.length
  ·have hgn:=qxt G c k hkl
   have hg1:=qrg G hg (c.take k)
   have hlc:=qgb (c.getD k 0)
   by_cases hli:litB (c.getD k 0)=true
   ·have hv:=jfu (c.getD k 0) hli
    rw [hli] at hlc
    rw [hcc] at hv hlc
    have em:max (jh G (c.take k)) (absI ((cs.getD i []).getD k 0))=jh G (c.take (k+1)):=by
     rw [hgn,← hcc]
     by_cases hlt:jh G (c.take k)<absI (c.getD k 0)
     ·rw [za ⟨hli,hlt⟩];omega
     ·rw [ze (fun h=>hlt h.2)];omega
    (repeat' ((conv=>whnf);first|refine zA ?_|refine zO ?_|refine Ob.auto ?_|(refine Ob.intro (by (first|exact ⟨by omega,by omega⟩|exact fun _=>⟨by omega,by omega⟩)) ?_)|refine zC 300 (hlc) ?_|refine zG 300 (fun hg=>hlc) ?_|(refine CallY.con (hlc) (by rfl) leA ?_)|(refine CallZ.con (fun hg=>hlc) qf (by rfl) ?_)|refine zC 300 (hv) ?_|refine zG 300 (fun hg=>hv) ?_|(refine CallY.con (hv) (by rfl) leA ?_)|(refine CallZ.con (fun hg=>hv) qf (by rfl) ?_)|(refine qg (fun _=>rfl) 300 (hlc) qc (by (repeat' (first|exact trivial|exact Le.refl _|(refine And.intro ?_ ?_))) <;> fail) (by rfl) (by kernel_rfl) ?_)|(refine qi (fun _=>rfl) 300 (fun hg=>hlc) (fun hg=>qc) (fun hg=>(by (repeat' (first|exact trivial|exact Le.refl _|exact Le.cnd hg|(refine And.intro ?_ ?_))) <;> fail)) (by rfl) (by kernel_rfl) ?_)|(refine qg (fun _=>rfl) 300 (hv) qc (by (repeat' (first|exact trivial|exact Le.refl _|(refine And.intro ?_ ?_))) <;> fail) (by rfl) (by kernel_rfl) ?_)|(refine qi (fun _=>rfl) 300 (fun hg=>hv) (fun hg=>qc) (fun hg=>(by (repeat' (first|exact trivial|exact Le.refl _|exact Le.cnd hg|(refine And.intro ?_ ?_))) <;> fail)) (by rfl) (by kernel_rfl) ?_)|refine zD 300 ?_|(apply zB <;> intro hb <;> (try simp [-zd] at hb) <;> try (exfalso;omega))|refine Ob.intro ?_ ?_))
    ·((conv=>whnf);refine ⟨k+1,by omega,⟨⟨Le.of_eq (congrArg (AV.int _) (by omega)),Le.of_eq (congrArg (AV.int _) em),Le.refl _,Le.refl _,trivial⟩,qa⟩,⟨qa,qa⟩,?_⟩;(first|omega|(dsimp only;omega)|skip))
    ·exfalso;rw [← hcc] at hb;omega
   ·have hlf:=zbf _ ▸ hli
    rw [hlf] at hlc
    rw [hcc] at hlc
    (repeat' ((conv=>whnf);first|refine zA ?_|refine zO ?_|refine Ob.auto ?_|(refine Ob.intro (by (first|exact ⟨by omega,by omega⟩|exact fun _=>⟨by omega,by omega⟩)) ?_)|refine zC 300 (hlc) ?_|refine zG 300 (fun hg=>hlc) ?_|(refine CallY.con (hlc) (by rfl) leA ?_)|(refine CallZ.con (fun hg=>hlc) qf (by rfl) ?_)|(refine qg (fun _=>rfl) 300 (hlc) qc (by (repeat' (first|exact trivial|exact Le.refl _|(refine And.intro ?_ ?_))) <;> fail) (by rfl) (by kernel_rfl) ?_)|(refine qi (fun _=>rfl) 300 (fun hg=>hlc) (fun hg=>qc) (fun hg=>(by (repeat' (first|exact trivial|exact Le.refl _|exact Le.cnd hg|(refine And.intro ?_ ?_))) <;> fail)) (by rfl) (by kernel_rfl) ?_)|refine zD 300 ?_|(apply zB <;> intro hb <;> (try simp [-zd] at hb) <;> try (exfalso;omega))|refine Ob.intro ?_ ?_))
    ·have e:jh G (c.take k)=jh G (c.take (k+1)):=by rw [hgn];exact (ze fun h=>hli h.1).symm
     rw [e]
     ((conv=>whnf);refine ⟨k+1,by omega,⟨qa,qa⟩,⟨qa,qa⟩,?_⟩;(first|omega|(dsimp only;omega)|skip))
    ·exfalso;rw [← hcc] at hb;omega
  ·obtain rfl:k=c.length:=by omega
   rw [xi,← hnx]
   (repeat' ((conv=>whnf);first|refine zA ?_|refine zO ?_|refine Ob.auto ?_|refine zI ?_|refine zD 300 ?_|(apply zB <;> intro hb <;> (try simp [-zd] at hb) <;> try (exfalso;omega))|refine Ob.intro ?_ ?_))
   ·exfalso;rw [← hcc] at hb;omega
   ·((conv=>whnf);refine ⟨i+1,by omega,⟨qa,qa⟩,⟨qa,qa⟩,?_⟩;(first|omega|(dsimp only;omega)|skip))
 ·obtain rfl:i=cs.length:=by omega
  rw [xi]
  (repeat' ((conv=>whnf);first|refine zA ?_|refine zO ?_|refine Ob.auto ?_|refine zI ?_|refine zD 300 ?_|(apply zB <;> intro hb <;> (try simp [-zd] at hb) <;> try (exfalso;omega))|refine Ob.intro ?_ ?_))
  exact Le.refl _
end Go.Proofs.Ytkhdldncbmkidaa
end
section
namespace Go.Proofs.Ytkhdldncbmkidaa
open List renaming getD_eq_getElem?_getD → zd
open Go Go.Sx Go.RowKit Go.Ru Go.Cl
set_option maxRecDepth 100000
set_option maxHeartbeats 8000000
theorem qxx (l:Int) (h:-100000≤l∧l≤100000):Con Try.prog 60 [iv l] (iv (qag l)):=by
 refine zK {} 300 Try.func60 (fun c0 rdb=>?_)
 (repeat' ((conv=>whnf);first|refine zA ?_|refine zO ?_|refine Ob.auto ?_|(refine Ob.intro (by (first|exact ⟨by omega,by omega⟩|exact ⟨by decide,qbh (by omega) (by omega)⟩)) ?_)|refine zD 300 ?_|(apply zB <;> intro hb <;> (try simp [-zd] at hb) <;> try (exfalso;omega))|refine Ob.intro ?_ ?_))
 ·refine Le.of_eq (congrArg (AV.int _) ?_)
  unfold qag
  rw [za hb];omega
 ·refine Le.of_eq (congrArg (AV.int _) ?_)
  unfold qag
  rw [ze (by omega)];omega
theorem qds (c:List Int) {i:Nat} (h:i=0):chop (0+1) [ints c] i=encL (fun l=>[ints l]) [] [c] i:=by
 subst h;rfl
theorem qxy (k:K) (hk:Sz k) (c:List Int) (hr:rightB c=true) (hl:c.length≤100000) :
  Trip Try.prog 40 [.ptr 0 0,ints c] (stK k) (.own 11 0 0 c.length) (idx 0 (stK (k.grow (qe [c]).toNat))++[(11,.row [] 3 1 0 c.length (encN (codesN c)))]) 12:=by
 have hg:=qjq [c]
 have hgc:=qxw [c] (by simp) (by intro d hd;rw [zk] at hd;subst hd;omega)
 have hgt:=qxo k hk (qe [c]).toNat (by omega)
 have hgn:qe [c]=(((qe [c]).toNat:Nat):Int):=by omega
 refine zL {} 300 Try.func40 (fun c0 rdb mpb=>?_)
 (repeat' ((conv=>whnf);first|refine zA ?_|refine zO ?_|refine Ob.auto ?_|(refine Ob.intro (by (first|exact ⟨by omega,by omega⟩)) ?_)|refine zD 300 ?_|(apply zB <;> intro hb <;> (try simp [-zd] at hb) <;> try (exfalso;omega))|refine Ob.intro ?_ ?_))
 ((conv=>whnf);refine jl (fun _=>rfl) 300 hgc (by rfl) ⟨Le.slc rfl (fun i hi=>qds c (Nat.lt_one_iff.1 hi)),trivial⟩ (by kernel_rfl) ?_)
 (repeat' ((conv=>whnf);first|refine zA ?_|refine zO ?_|refine Ob.auto ?_|(refine Ob.intro (by (first|exact ⟨by omega,by omega⟩)) ?_)|refine zD 300 ?_|(apply zB <;> intro hb <;> (try simp [-zd] at hb) <;> try (exfalso;omega))|refine Ob.intro ?_ ?_))
 ((conv=>whnf);refine jm (fun _=>rfl) 300 [0,1,2,3,4,5,6,7,8,9,10] hgt (by kernel_rfl) ⟨Le.refl _,Le.of_eq (congrArg (AV.int _) hgn),trivial⟩ (by exact qat k) (by exact qn k) (by exact qn _) (by kernel_rfl) ?_)
 generalize k.grow (qe [c]).toNat=k1 at hgt ⊢
 replace hgn:=Hid.in hgn
 replace hgt:=Hid.in hgt
 replace hgc:=Hid.in hgc
 (repeat' ((conv=>whnf);first|refine zA ?_|refine zO ?_|refine Ob.auto ?_|(refine Ob.intro (by (first|exact ⟨by omega,by omega⟩|(refine ⟨by omega,by omega,by omega,?_⟩;dsimp only;refine Int.le_trans (Int.mul_le_mul_of_nonneg_right (?_:_≤(4000001:Int)) (zf _)) (by decide +kernel);omega))) ?_)|refine zD 300 ?_|(apply zB <;> intro hb <;> (try simp [-zd] at hb) <;> try (exfalso;omega))|refine Ob.intro ?_ ?_))
 ((conv=>whnf);refine qw (fun _=>rfl) 300 1 (fun i:Nat=>[(18,iv i),(5,.own 11 0 0 (codesN (c.take i)).length)]) (fun i=>[(11,.row [] 3 1 0 (codesN (c.take i)).length (encN (codesN (c.take i))))]) (fun i=>i≤c.length) (fun i=>c.length - i) (0) (zv _) qa (by
  repeat' (first|exact trivial|exact rfl|exact Le.refl _|exact fun j hj=>absurd hj (zo _)|refine And.intro ?_ ?_)) (fun _=>rfl) (by kernel_rfl) ?_;(conv=>whnf))
 intro i hi
 by_cases hil:i<c.length
 ·have hli:(codesN (c.take i)).length=i:=by unfold codesN;rw [xq,zu];omega
  have hlit:litB (c.getD i 0)=true:=List.all_eq_true.1 hr _ (qj hil)
  have hco:=qxx (c.getD i 0) ((jy _).1 hlit).2
  have hnx:codesN (c.take (i+1))=codesN (c.take i)++[qag (c.getD i 0)]:=by
   unfold codesN
   rw [zal,zd,zb hil,zbd];rfl
  replace hnx:=Hid.in hnx
  replace hlit:=Hid.in hlit
  (repeat' ((conv=>whnf);first|refine zA ?_|refine zO ?_|refine Ob.auto ?_|(refine Ob.intro (by (first|exact ⟨by omega,by omega⟩|exact qcm (b:=(tab Try.prog 3).bytes) (by omega) (by decide +kernel))) ?_)|refine zC 300 (hco) ?_|refine zG 300 (fun hg=>hco) ?_|(refine CallY.con (hco) (by rfl) leA ?_)|(refine CallZ.con (fun hg=>hco) qf (by rfl) ?_)|(refine qg (fun _=>rfl) 300 (hco) qc (by (repeat' (first|exact trivial|exact Le.refl _|(refine And.intro ?_ ?_))) <;> fail) (by rfl) (by kernel_rfl) ?_)|(refine qi (fun _=>rfl) 300 (fun hg=>hco) (fun hg=>qc) (fun hg=>(by (repeat' (first|exact trivial|exact Le.refl _|exact Le.cnd hg|(refine And.intro ?_ ?_))) <;> fail)) (by rfl) (by kernel_rfl) ?_)|refine zD 300 ?_|(apply zB <;> intro hb <;> (try simp [-zd] at hb) <;> try (exfalso;omega))|refine Ob.intro ?_ ?_))
  ((conv=>whnf);refine ⟨i+1,hil,⟨(by
   rw [hnx.out]
   simp only [zi,xh,zaf,zw]
   (repeat' (first|exact trivial|exact rfl|exact Le.refl _|exact SoLe.refl _|refine And.intro ?_ ?_))),(by
   rw [hnx.out]
   simp only [zi,xh,zaf,zw]
   repeat' (first|exact trivial|exact rfl|exact Le.refl _|exact qjb rfl|refine And.intro ?_ ?_))⟩,⟨qa,qa⟩,?_⟩;(first|omega|(dsimp only;omega)|skip))
 ·obtain rfl:i=c.length:=by omega
  have hcl:(codesN c).length=c.length:=by unfold codesN;rw [xq]
  (repeat' ((conv=>whnf);first|refine zA ?_|refine zO ?_|refine Ob.auto ?_|(refine Ob.intro (by (first|exact ⟨by omega,by omega⟩)) ?_)|refine zD 300 ?_|(apply zB <;> intro hb <;> (try simp [-zd] at hb) <;> try (exfalso;omega))|refine Ob.intro ?_ ?_))
  rw [xi,hcl]
  refine ⟨Le.refl _,?_⟩
  unfold stK boxK
  repeat' (first|exact trivial|exact rfl|exact Le.refl _|exact SoLe.refl _|exact fun _ _=>LeL.refl _|exact fun _ _ _ _=>LeL.refl _|refine And.intro ?_ ?_)
def bytU (l:List UInt8):Nat→List AV:=fun i=>[.int .u8 (((l.getD i 0).toNat:Nat):Int)]
theorem jiz (l:List UInt8):qbf l.length (bytU l)=l:=by
 apply List.ext_getElem
 ·simp [qbf]
 ·intro i h1 h2
  simp only [qbf,List.getElem_map,List.getElem_range,bytU,qnr]
  rw [zd,zb h2]
  simp
theorem wrap8 (n:Int):IntKind.u8.wrap n=n % 256:=by simp [IntKind.wrap,IntKind.bits,IntKind.signed]
theorem shr8 (x:Nat):shrI .i64 (x:Int) 8=((x / 256:Nat):Int):=by
 show (x:Int).fdiv 256=_
 rw [Int.fdiv_eq_ediv_of_nonneg _ (by decide)]
 rfl
theorem shr16 (x:Nat):shrI .i64 (x:Int) 16=((x / 65536:Nat):Int):=by
 show (x:Int).fdiv 65536=_
 rw [Int.fdiv_eq_ediv_of_nonneg _ (by decide)]
 rfl
theorem qrh (x:Nat):IntKind.u8.wrap (x:Int)=(((UInt8.ofNat x).toNat:Nat):Int):=by
 rw [wrap8]
 simp
theorem jja {l:List UInt8} {x:Nat} {j:Nat} (hj:j<l.length+3) :
  LeL (appF l.length (bytU l) 3 (chop (0+1) [AV.int .u8 (IntKind.u8.wrap (x:Int)),AV.int .u8 (IntKind.u8.wrap (shrI .i64 (x:Int) 8)),AV.int .u8 (IntKind.u8.wrap (shrI .i64 (x:Int) 16))]) j) (bytU (l++qed x) j):=by
 refine LeL.of_eq ?_
 rw [shr8,shr16,qrh,qrh,qrh]
 unfold appF bytU
 by_cases h:j<l.length
 ·rw [za h,zd,zd,zn h]
 ·rw [ze h,za hj,zd (l:=l++_),zl (by omega)]
  have:j - l.length=0∨j - l.length=1∨j - l.length=2:=by omega
  rcases this with e|e|e <;> rw [e] <;> rfl
theorem qxz (c:List Int) (hr:rightB c=true) (hl:c.length≤100000):Con Try.prog 51 [ints c] (.str (keyN c)):=by
 refine zK {wraps:=[21,24,27]} 300 Try.func51 (fun c0 rdb=>?_)
 (repeat' ((conv=>whnf);first|refine zA ?_|refine zO ?_|refine Ob.auto ?_|(refine Ob.intro (by (first|exact ⟨by omega,by omega⟩|(refine ⟨by omega,by omega,by omega,?_⟩;dsimp only;refine Int.le_trans (Int.mul_le_mul_of_nonneg_right (?_:_≤(4000001:Int)) (zf _)) (by decide +kernel);omega))) ?_)|refine zD 300 ?_|(apply zB <;> intro hb <;> (try simp [-zd] at hb) <;> try (exfalso;omega))|refine Ob.intro ?_ ?_))
 ((conv=>whnf);refine qw (fun _=>rfl) 300 1 (fun i:Nat=>[(13,iv i),(3,.own 0 0 0 (keyN (c.take i)).length)]) (fun i=>[(0,.row [] 5 1 0 (keyN (c.take i)).length (bytU (keyN (c.take i))))]) (fun i=>i≤c.length) (fun i=>c.length - i) (0) (zv _) qa (by
  repeat' (first|exact trivial|exact rfl|exact Le.refl _|exact fun j hj=>absurd hj (zo _)|refine And.intro ?_ ?_)) (fun _=>rfl) (by kernel_rfl) ?_;(conv=>whnf))
 intro i hi
 by_cases hil:i<c.length
 ·have hlit:litB (c.getD i 0)=true:=List.all_eq_true.1 hr _ (qj hil)
  have hco:=qxx (c.getD i 0) ((jy _).1 hlit).2
  have hcs:=qqr hlit
  replace hlit:=Hid.in hlit
  have hkl:∀ j,(keyN (c.take j)).length≤3 * j:=fun j=>by
   have e:∀ d:List Int,(keyN d).length=3 * d.length:=fun d=>by
    induction d with
    | nil=>rfl
    | cons x d ih=>
     unfold keyN at ih ⊢
     rw [List.flatMap_cons,zi,ih]
     show 3+3 * d.length=3 * (d.length+1)
     omega
   rw [e,zu];omega
  have hki:=hkl i
  (repeat' ((conv=>whnf);first|refine zA ?_|refine zO ?_|refine Ob.auto ?_|(refine Ob.intro (by (first|exact ⟨by omega,by omega⟩|exact ⟨by omega,zr (zt _ (by omega:(keyN (c.take i)).length+3≤1000001)) (by decide +kernel)⟩)) ?_)|refine zC 300 (hco) ?_|refine zG 300 (fun hg=>hco) ?_|(refine CallY.con (hco) (by rfl) leA ?_)|(refine CallZ.con (fun hg=>hco) qf (by rfl) ?_)|(refine qg (fun _=>rfl) 300 (hco) qc (by (repeat' (first|exact trivial|exact Le.refl _|(refine And.intro ?_ ?_))) <;> fail) (by rfl) (by kernel_rfl) ?_)|(refine qi (fun _=>rfl) 300 (fun hg=>hco) (fun hg=>qc) (fun hg=>(by (repeat' (first|exact trivial|exact Le.refl _|exact Le.cnd hg|(refine And.intro ?_ ?_))) <;> fail)) (by rfl) (by kernel_rfl) ?_)|refine zD 300 ?_|(apply zB <;> intro hb <;> (try simp [-zd] at hb) <;> try (exfalso;omega))|refine Ob.intro ?_ ?_))
  have hnx:keyN (c.take (i+1))=keyN (c.take i)++qed (qag (c.getD i 0)):=by
   unfold keyN
   rw [zal,zd,zb hil,List.flatMap_append]
   simp
  have hn3:(keyN (c.take i)++qed (qag (c.getD i 0))).length=(keyN (c.take i)).length+3:=by rw [zi];rfl
  ((conv=>whnf);refine ⟨i+1,hil,⟨(by
   rw [hnx,hn3]
   (repeat' (first|exact trivial|exact rfl|exact Le.refl _|exact SoLe.refl _|refine And.intro ?_ ?_))),(by
   rw [hnx,hn3]
   repeat' (first|exact trivial|exact rfl|exact Le.refl _|exact fun j hj=>jja hj|refine And.intro ?_ ?_))⟩,⟨qa,qa⟩,?_⟩;(first|omega|(dsimp only;omega)|skip))
 ·obtain rfl:i=c.length:=by omega
  rw [xi]
  (repeat' ((conv=>whnf);first|refine zA ?_|refine zO ?_|refine Ob.auto ?_|(refine Ob.intro (by (first|exact ⟨by omega,by omega⟩)) ?_)|refine zD 300 ?_|(apply zB <;> intro hb <;> (try simp [-zd] at hb) <;> try (exfalso;omega))|refine Ob.intro ?_ ?_))
  ·exact ⟨⟨rfl,rfl⟩,fun i _=>⟨_,rfl⟩⟩
  ·exact Le.of_eq (congrArg AV.str (jiz _))
end Go.Proofs.Ytkhdldncbmkidaa
end
