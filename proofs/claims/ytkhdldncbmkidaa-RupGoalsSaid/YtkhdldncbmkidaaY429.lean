/- Some texts of the library, one behind the other. -/
import Derived.Test.YtkhdldncbmkidaaY427
import Derived.Test.YtkhdldncbmkidaaY4Cn4
import Derived.Test.YtkhdldncbmkidaaY42
set_option linter.unusedSimpArgs false
set_option linter.unusedVariables false
section
namespace Go.Proofs.Ytkhdldncbmkidaa
open List renaming getD_eq_getElem?_getD → zd
open Go Go.Sx Go.RowKit Go.St Go.Cl
set_option maxRecDepth 100000
set_option maxHeartbeats 4000000
theorem qwv (cs:List (List Int)) (hl:cs.length≤1000000) (hm:∀ c∈cs,c.length≤1000000):Con Try.prog 39 [qbh cs] (iv (qe cs)):=by
 refine zK {} 300 Try.func39 (fun c0 rdb=>?_)
 (repeat' ((conv=>whnf);first|refine zA ?_|refine zO ?_|refine Ob.auto ?_|refine zD 300 ?_|(apply zB <;> intro hb <;> (try simp [-zd] at hb) <;> try (exfalso;omega))|refine Ob.intro ?_ ?_))
 ((conv=>whnf);refine jk (fun _=>rfl) 300 1 (fun i:Nat=>[(10,iv i),(3,iv (qe (cs.take i)))]) (fun _=>[]) (fun i=>i≤cs.length) (fun i=>cs.length - i) (0) (xa _) qa qa (fun _=>rfl) (by kernel_rfl) ?_;(conv=>whnf))
 intro i hi
 by_cases hil:i<cs.length
 ·have hcl:=hm _ (qgr cs i [] hil)
  have hnx:=qwu cs i hil
  have hg:=qjb (cs.take i)
  generalize qe (cs.take i)=G at hnx hg ⊢
  obtain ⟨c,hcc⟩:∃ c,c=cs.getD i []:=⟨_,rfl⟩
  rw [← hcc] at hcl hnx
  (repeat' ((conv=>whnf);first|refine zA ?_|refine zO ?_|refine Ob.auto ?_|refine zI ?_|refine zD 300 ?_|(apply zB <;> intro hb <;> (try simp [-zd] at hb) <;> try (exfalso;omega))|refine Ob.intro ?_ ?_))
  ((conv=>whnf);refine jk (fun _=>rfl) 300 2 (fun k:Nat=>[(16,iv k),(3,iv (jf G (c.take k))),(9,iv cs.length),(8,qbh cs)]) (fun _=>[]) (fun k=>k≤c.length) (fun k=>c.length - k) (0) (xa _) qa qa (fun _=>rfl) (by kernel_rfl) ?_;(conv=>whnf))
  intro k hk
  by_cases hkl:k<c.length
  ·have hgn:=qwt G c k hkl
   have hg1:=qqo G hg (c.take k)
   have hlc:=qfn (c.getD k 0)
   by_cases hli:litB (c.getD k 0)=true
   ·have hv:=jef (c.getD k 0) hli
    rw [hli] at hlc
    rw [hcc] at hv hlc
    have em:max (jf G (c.take k)) (absI ((cs.getD i []).getD k 0))=jf G (c.take (k+1)):=by
     rw [hgn,← hcc]
     by_cases hlt:jf G (c.take k)<absI (c.getD k 0)
     ·rw [za ⟨hli,hlt⟩];omega
     ·rw [ze (fun h=>hlt h.2)];omega
    (repeat' ((conv=>whnf);first|refine zA ?_|refine zO ?_|refine Ob.auto ?_|(refine Ob.intro (by (first|exact ⟨by omega,by omega⟩|exact fun _=>⟨by omega,by omega⟩)) ?_)|refine zC 300 (hlc) ?_|refine zG 300 (fun hg=>hlc) ?_|(refine CallY.con (hlc) (by rfl) leA ?_)|(refine CallZ.con (fun hg=>hlc) qp (by rfl) ?_)|refine zC 300 (hv) ?_|refine zG 300 (fun hg=>hv) ?_|(refine CallY.con (hv) (by rfl) leA ?_)|(refine CallZ.con (fun hg=>hv) qp (by rfl) ?_)|(refine qv (fun _=>rfl) 300 (hlc) qd (by (repeat' (first|exact trivial|exact Le.refl _|(refine And.intro ?_ ?_))) <;> fail) (by rfl) (by kernel_rfl) ?_)|(refine qw (fun _=>rfl) 300 (fun hg=>hlc) (fun hg=>qd) (fun hg=>(by (repeat' (first|exact trivial|exact Le.refl _|exact Le.cnd hg|(refine And.intro ?_ ?_))) <;> fail)) (by rfl) (by kernel_rfl) ?_)|(refine qv (fun _=>rfl) 300 (hv) qd (by (repeat' (first|exact trivial|exact Le.refl _|(refine And.intro ?_ ?_))) <;> fail) (by rfl) (by kernel_rfl) ?_)|(refine qw (fun _=>rfl) 300 (fun hg=>hv) (fun hg=>qd) (fun hg=>(by (repeat' (first|exact trivial|exact Le.refl _|exact Le.cnd hg|(refine And.intro ?_ ?_))) <;> fail)) (by rfl) (by kernel_rfl) ?_)|refine zD 300 ?_|(apply zB <;> intro hb <;> (try simp [-zd] at hb) <;> try (exfalso;omega))|refine Ob.intro ?_ ?_))
    ·((conv=>whnf);refine ⟨k+1,by omega,⟨⟨Le.of_eq (congrArg (AV.int _) (by omega)),Le.of_eq (congrArg (AV.int _) em),Le.refl _,Le.refl _,trivial⟩,qa⟩,⟨qa,qa⟩,?_⟩;(first|omega|(dsimp only;omega)|skip))
    ·exfalso;rw [← hcc] at hb;omega
   ·have hlf:=Bool.not_eq_true _ ▸ hli
    rw [hlf] at hlc
    rw [hcc] at hlc
    (repeat' ((conv=>whnf);first|refine zA ?_|refine zO ?_|refine Ob.auto ?_|(refine Ob.intro (by (first|exact ⟨by omega,by omega⟩|exact fun _=>⟨by omega,by omega⟩)) ?_)|refine zC 300 (hlc) ?_|refine zG 300 (fun hg=>hlc) ?_|(refine CallY.con (hlc) (by rfl) leA ?_)|(refine CallZ.con (fun hg=>hlc) qp (by rfl) ?_)|(refine qv (fun _=>rfl) 300 (hlc) qd (by (repeat' (first|exact trivial|exact Le.refl _|(refine And.intro ?_ ?_))) <;> fail) (by rfl) (by kernel_rfl) ?_)|(refine qw (fun _=>rfl) 300 (fun hg=>hlc) (fun hg=>qd) (fun hg=>(by (repeat' (first|exact trivial|exact Le.refl _|exact Le.cnd hg|(refine And.intro ?_ ?_))) <;> fail)) (by rfl) (by kernel_rfl) ?_)|refine zD 300 ?_|(apply zB <;> intro hb <;> (try simp [-zd] at hb) <;> try (exfalso;omega))|refine Ob.intro ?_ ?_))
    ·have e:jf G (c.take k)=jf G (c.take (k+1)):=by rw [hgn];exact (ze fun h=>hli h.1).symm
     rw [e]
     ((conv=>whnf);refine ⟨k+1,by omega,⟨qa,qa⟩,⟨qa,qa⟩,?_⟩;(first|omega|(dsimp only;omega)|skip))
    ·exfalso;rw [← hcc] at hb;omega
  ·obtain rfl:k=c.length:=by omega
   rw [xi,← hnx]
   (repeat' ((conv=>whnf);first|refine zA ?_|refine zO ?_|refine Ob.auto ?_|refine zI ?_|refine zD 300 ?_|(apply zB <;> intro hb <;> (try simp [-zd] at hb) <;> try (exfalso;omega))|refine Ob.intro ?_ ?_))
   ·exfalso;rw [← hcc] at hb;omega
   ·((conv=>whnf);refine ⟨i+1,by omega,⟨qa,qa⟩,⟨qa,qa⟩,?_⟩;(first|omega|(dsimp only;omega)|skip))
 ·obtain rfl:i=cs.length:=by omega
  rw [xi]
  (repeat' ((conv=>whnf);first|refine zA ?_|refine zO ?_|refine Ob.auto ?_|refine zI ?_|refine zD 300 ?_|(apply zB <;> intro hb <;> (try simp [-zd] at hb) <;> try (exfalso;omega))|refine Ob.intro ?_ ?_))
  exact Le.refl _
end Go.Proofs.Ytkhdldncbmkidaa
end
section
namespace Go.Proofs.Ytkhdldncbmkidaa
open List renaming getD_eq_getElem?_getD → zd
open Go Go.Sx Go.RowKit Go.Ru Go.Cl
set_option maxRecDepth 100000
set_option maxHeartbeats 8000000
theorem qww (l:Int) (h:-100000≤l∧l≤100000):Con Try.prog 60 [iv l] (iv (jz l)):=by
 refine zK {} 300 Try.func60 (fun c0 rdb=>?_)
 (repeat' ((conv=>whnf);first|refine zA ?_|refine zO ?_|refine Ob.auto ?_|(refine Ob.intro (by (first|exact ⟨by omega,by omega⟩|exact ⟨by decide,qbk (by omega) (by omega)⟩)) ?_)|refine zD 300 ?_|(apply zB <;> intro hb <;> (try simp [-zd] at hb) <;> try (exfalso;omega))|refine Ob.intro ?_ ?_))
 ·refine Le.of_eq (congrArg (AV.int _) ?_)
  unfold jz
  rw [za hb];omega
 ·refine Le.of_eq (congrArg (AV.int _) ?_)
  unfold jz
  rw [ze (by omega)];omega
theorem qdh (c:List Int) {i:Nat} (h:i=0):chop (0+1) [ints c] i=encL (fun l=>[ints l]) [] [c] i:=by
 subst h;rfl
theorem qwx (k:K) (hk:Sz k) (c:List Int) (hr:rightB c=true) (hl:c.length≤100000) :
  Trip Try.prog 40 [.ptr 0 0,ints c] (stK k) (.own 11 0 0 c.length) (idx 0 (stK (k.grow (qe [c]).toNat))++[(11,.row [] 3 1 0 c.length (encN (codesN c)))]) 12:=by
 have hg:=qjb [c]
 have hgc:=qwv [c] (by simp) (by intro d hd;rw [zk] at hd;subst hd;omega)
 have hgt:=qws k hk (qe [c]).toNat (by omega)
 have hgn:qe [c]=(((qe [c]).toNat:Nat):Int):=by omega
 refine zL {} 300 Try.func40 (fun c0 rdb mpb=>?_)
 (repeat' ((conv=>whnf);first|refine zA ?_|refine zO ?_|refine Ob.auto ?_|(refine Ob.intro (by (first|exact ⟨by omega,by omega⟩)) ?_)|refine zD 300 ?_|(apply zB <;> intro hb <;> (try simp [-zd] at hb) <;> try (exfalso;omega))|refine Ob.intro ?_ ?_))
 ((conv=>whnf);refine qbi (fun _=>rfl) 300 hgc (by rfl) ⟨Le.slc rfl (fun i hi=>qdh c (Nat.lt_one_iff.1 hi)),trivial⟩ (by kernel_rfl) ?_)
 (repeat' ((conv=>whnf);first|refine zA ?_|refine zO ?_|refine Ob.auto ?_|(refine Ob.intro (by (first|exact ⟨by omega,by omega⟩)) ?_)|refine zD 300 ?_|(apply zB <;> intro hb <;> (try simp [-zd] at hb) <;> try (exfalso;omega))|refine Ob.intro ?_ ?_))
 ((conv=>whnf);refine ji (fun _=>rfl) 300 [0,1,2,3,4,5,6,7,8,9,10] hgt (by kernel_rfl) ⟨Le.refl _,Le.of_eq (congrArg (AV.int _) hgn),trivial⟩ (by exact qaj k) (by exact qj k) (by exact qj _) (by kernel_rfl) ?_)
 generalize k.grow (qe [c]).toNat=k1 at hgt ⊢
 replace hgn:=Hid.in hgn
 replace hgt:=Hid.in hgt
 replace hgc:=Hid.in hgc
 (repeat' ((conv=>whnf);first|refine zA ?_|refine zO ?_|refine Ob.auto ?_|(refine Ob.intro (by (first|exact ⟨by omega,by omega⟩|(refine ⟨by omega,by omega,by omega,?_⟩;dsimp only;refine Int.le_trans (Int.mul_le_mul_of_nonneg_right (?_:_≤(4000001:Int)) (zg _)) (by decide +kernel);omega))) ?_)|refine zD 300 ?_|(apply zB <;> intro hb <;> (try simp [-zd] at hb) <;> try (exfalso;omega))|refine Ob.intro ?_ ?_))
 ((conv=>whnf);refine jk (fun _=>rfl) 300 1 (fun i:Nat=>[(18,iv i),(5,.own 11 0 0 (codesN (c.take i)).length)]) (fun i=>[(11,.row [] 3 1 0 (codesN (c.take i)).length (encN (codesN (c.take i))))]) (fun i=>i≤c.length) (fun i=>c.length - i) (0) (xa _) qa (by
  repeat' (first|exact trivial|exact rfl|exact Le.refl _|exact fun j hj=>absurd hj (zu _)|refine And.intro ?_ ?_)) (fun _=>rfl) (by kernel_rfl) ?_;(conv=>whnf))
 intro i hi
 by_cases hil:i<c.length
 ·have hli:(codesN (c.take i)).length=i:=by unfold codesN;rw [xp,zr];omega
  have hlit:litB (c.getD i 0)=true:=List.all_eq_true.1 hr _ (qg hil)
  have hco:=qww (c.getD i 0) ((qdd _).1 hlit).2
  have hnx:codesN (c.take (i+1))=codesN (c.take i)++[jz (c.getD i 0)]:=by
   unfold codesN
   rw [zat,zd,zb hil,zbk];rfl
  replace hnx:=Hid.in hnx
  replace hlit:=Hid.in hlit
  (repeat' ((conv=>whnf);first|refine zA ?_|refine zO ?_|refine Ob.auto ?_|(refine Ob.intro (by (first|exact ⟨by omega,by omega⟩|exact qdr (b:=(tab Try.prog 3).bytes) (by omega) (by decide +kernel))) ?_)|refine zC 300 (hco) ?_|refine zG 300 (fun hg=>hco) ?_|(refine CallY.con (hco) (by rfl) leA ?_)|(refine CallZ.con (fun hg=>hco) qp (by rfl) ?_)|(refine qv (fun _=>rfl) 300 (hco) qd (by (repeat' (first|exact trivial|exact Le.refl _|(refine And.intro ?_ ?_))) <;> fail) (by rfl) (by kernel_rfl) ?_)|(refine qw (fun _=>rfl) 300 (fun hg=>hco) (fun hg=>qd) (fun hg=>(by (repeat' (first|exact trivial|exact Le.refl _|exact Le.cnd hg|(refine And.intro ?_ ?_))) <;> fail)) (by rfl) (by kernel_rfl) ?_)|refine zD 300 ?_|(apply zB <;> intro hb <;> (try simp [-zd] at hb) <;> try (exfalso;omega))|refine Ob.intro ?_ ?_))
  ((conv=>whnf);refine ⟨i+1,hil,⟨(by
   rw [hnx.out]
   simp only [zj,xj,zab,zx]
   (repeat' (first|exact trivial|exact rfl|exact Le.refl _|exact SoLe.refl _|refine And.intro ?_ ?_))),(by
   rw [hnx.out]
   simp only [zj,xj,zab,zx]
   repeat' (first|exact trivial|exact rfl|exact Le.refl _|exact qio rfl|refine And.intro ?_ ?_))⟩,⟨qa,qa⟩,?_⟩;(first|omega|(dsimp only;omega)|skip))
 ·obtain rfl:i=c.length:=by omega
  have hcl:(codesN c).length=c.length:=by unfold codesN;rw [xp]
  (repeat' ((conv=>whnf);first|refine zA ?_|refine zO ?_|refine Ob.auto ?_|(refine Ob.intro (by (first|exact ⟨by omega,by omega⟩)) ?_)|refine zD 300 ?_|(apply zB <;> intro hb <;> (try simp [-zd] at hb) <;> try (exfalso;omega))|refine Ob.intro ?_ ?_))
  rw [xi,hcl]
  refine ⟨Le.refl _,?_⟩
  unfold stK boxK
  repeat' (first|exact trivial|exact rfl|exact Le.refl _|exact SoLe.refl _|exact fun _ _=>LeL.refl _|exact fun _ _ _ _=>LeL.refl _|refine And.intro ?_ ?_)
end Go.Proofs.Ytkhdldncbmkidaa
end
