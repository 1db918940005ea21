/- The law ParseBlanks. -/
import Derived.Test.YthfaleaojlnnoaaY342
import Derived.Test.YthfaleaojlnnoaaY3LexQ2
import Derived.Test.YthfaleaojlnnoaaY32
set_option linter.unusedSimpArgs false
set_option linter.unusedVariables false
namespace Go.Proofs.Ythfaleaojlnnoaa
open List renaming getD_eq_getElem?_getD → zd
open Go Go.Sx Go.RowKit Go.St Pa
set_option maxRecDepth 100000
set_option maxHeartbeats 4000000
def qgt (sep:List UInt8) (ts:List Lx.Tok) (i:Nat):List UInt8:=(ts.take i).flatMap fun t=>t.s++sep
theorem jcg (sep:List UInt8) (ts:List Lx.Tok) (i:Nat) (hi:i<ts.length):qgt sep ts (i+1)=qgt sep ts i++(ts.getD i Lx.tok0).s++sep:=by
 unfold qgt
 rw [List.take_add_one,ze hi,List.flatMap_append,zd,ze hi,xp]
 simp
theorem jch (sep:List UInt8) (ts:List Lx.Tok):qgt sep ts ts.length=ts.flatMap fun t=>t.s++sep:=by
 unfold qgt
 rw [zaj]
theorem jci (sep:List UInt8) (ts:List Lx.Tok) (i:Nat):(qgt sep ts i).length≤(ts.flatMap fun t=>t.s++sep).length:=by
 unfold qgt
 have:(ts.flatMap fun t=>t.s++sep).length=((ts.take i++ts.drop i).flatMap fun t=>t.s++sep).length:=by rw [List.take_append_drop]
 rw [List.flatMap_append,zr] at this
 omega
theorem jcj {sep:List UInt8} (h4:sep.length≤4) {s:List UInt8} (hl:s.length≤700) (hs:(Lx.lexAll s).2.1=0):((Lx.lexAll s).1.flatMap fun t=>t.s++sep).length≤4000∧(Lx.lexAll s).1.length≤4000:=by
 obtain ⟨ts,hts⟩:∃ ts,Lx.lexR s 0=.ok ts:=by
  unfold Lx.lexAll at hs
  rw [za (by omega)] at hs
  split at hs
  ·exact ⟨_,by assumption⟩
  ·simp at hs
 have e:(Lx.lexAll s).1=ts:=by unfold Lx.lexAll;rw [za (by omega),hts]
 have h3:=quq sep _ s 0 ts (zj _) hts
 have h3':=quq [10] _ s 0 ts (zj _) hts
 have h5:sep.length * (s.length+1)≤4 * 701:=Nat.mul_le_mul h4 (by omega)
 have h6:ts.length≤(ts.flatMap fun t=>t.s++[10]).length:=by
  clear h3 h3' e hts
  induction ts with
  | nil=>exact xh _
  | cons t r ih=>
   rw [List.flatMap_cons,zr,zr,zh]
   simp only [zh,xz]
   omega
 rw [e]
 simp only [zh,xz] at h3'
 exact ⟨by omega,by omega⟩
theorem jpg (s:List UInt8) (feed:Bool):Con Try.prog 5 [.str s,.bool feed] (.bool true):=by
 by_cases hs:s.length≤700
 ·have h0:=jji s (by omega)
  by_cases hz:(Lx.lexAll s).2.1=0
  ·have h1:=qnc s (by omega)
   cases feed with
   | true=>
    obtain ⟨hL,hT⟩:=jcj (sep:=[10]) (by decide) hs hz
    obtain ⟨hE,hM⟩:=jcd joy (by decide) hs hz
    have h3:=jce hM
    have h2:=qnc _ (zx hL (by omega))
    have hA:=fun i=>zx (jci [10] (Lx.lexAll s).1 i) hL
    rw [← jch] at h2 h3 hE hL
    unfold Lx.lexAV at h0
    generalize (Lx.lexAll s).2=F at h0 hz
    generalize (Lx.lexAll s).1=ts at h0 h2 h3 hE hL hT hA
    obtain ⟨e,at_⟩:=F
    obtain rfl:e=0:=hz
    generalize hG:qgt [10] ts=G at h2 h3 hE hL hA
    have hGs:=jcg [10] ts
    rw [hG] at hGs
    have hG0:G 0=[]:=by rw [← hG];rfl
    generalize jg s=R1 at h1 h3 hE
    generalize jg (G ts.length)=R2 at h2 h3 hE
    obtain ⟨l1,e1,a1⟩:=R1
    obtain ⟨l2,e2,a2⟩:=R2
    obtain rfl:e1=e2:=hE
    refine zK {} 300 Try.func5 (fun c0 rdb=>?_)
    (repeat' ((conv=>whnf);first|refine zA ?_|refine zO ?_|refine Ob.auto ?_|refine zC 300 (qbp) ?_|refine zG 300 (fun hg=>qbp) ?_|(refine CallY.con (qbp) (by rfl) leA ?_)|(refine CallZ.con (fun hg=>qbp) qu (by rfl) ?_)|refine zC 300 (h0) ?_|refine zG 300 (fun hg=>h0) ?_|(refine CallY.con (h0) (by rfl) leA ?_)|(refine CallZ.con (fun hg=>h0) qu (by rfl) ?_)|(refine ql (fun _=>rfl) 300 (qbp) qc (by (repeat' (first|exact trivial|exact Le.refl _|(refine And.intro ?_ ?_))) <;> fail) (by rfl) (by kernel_rfl) ?_)|(refine qv (fun _=>rfl) 300 (fun hg=>qbp) (fun hg=>qc) (fun hg=>(by (repeat' (first|exact trivial|exact Le.refl _|exact Le.cnd hg|(refine And.intro ?_ ?_))) <;> fail)) (by rfl) (by kernel_rfl) ?_)|(refine ql (fun _=>rfl) 300 (h0) qc (by (repeat' (first|exact trivial|exact Le.refl _|(refine And.intro ?_ ?_))) <;> fail) (by rfl) (by kernel_rfl) ?_)|(refine qv (fun _=>rfl) 300 (fun hg=>h0) (fun hg=>qc) (fun hg=>(by (repeat' (first|exact trivial|exact Le.refl _|exact Le.cnd hg|(refine And.intro ?_ ?_))) <;> fail)) (by rfl) (by kernel_rfl) ?_)|refine zD 300 ?_|(apply zB <;> intro hb <;> (try simp [-zd] at hb) <;> try (exfalso;omega))|refine Ob.intro ?_ ?_))
    ((conv=>whnf);refine qdc (fun _=>rfl) 300 1 (fun i:Nat=>[(8,iv i),(7,.str (G i))]) (fun _=>[]) (fun i=>i≤ts.length) (fun i=>ts.length - i) (0) (xh _) ⟨Le.refl _,Le.of_eq (congrArg AV.str hG0.symm),trivial⟩ qa (fun _=>rfl) (by kernel_rfl) ?_;(conv=>whnf))
    intro i hi
    have hGl:=hA i
    by_cases hil:i<ts.length
    ·have hGi:=hGs i hil
     have hle:=hA (i+1)
     rw [hGi] at hle
     simp only [zr] at hle
     have hq1:(G i).length+(ts.getD i Lx.tok0).s.length≤9223372036854775807:=by omega
     have hq2:(G i++(ts.getD i Lx.tok0).s).length+1≤9223372036854775807:=by rw [zr];simp only [zh,xz] at hle;omega
     have hq3:=hq2
     (repeat' ((conv=>whnf);first|refine zA ?_|refine zO ?_|refine Ob.auto ?_|(refine Ob.intro (by (first|exact ⟨by omega,by omega⟩|exact hq1|exact hq2|exact hq3)) ?_)|refine zD 300 ?_|(apply zB <;> intro hb <;> (try simp [-zd] at hb) <;> try (exfalso;omega))|refine Ob.intro ?_ ?_))
     ((conv=>whnf);refine ⟨i+1,hil,⟨⟨Le.refl _,Le.of_eq (congrArg AV.str hGi.symm),trivial⟩,qa⟩,⟨qa,qa⟩,?_⟩;(first|omega|(dsimp only;omega)|skip))
    ·obtain rfl:i=ts.length:=by omega
     (repeat' ((conv=>whnf);first|refine zA ?_|refine zO ?_|refine Ob.auto ?_|refine zI ?_|refine zC 300 (h1) ?_|refine zG 300 (fun hg=>h1) ?_|(refine CallY.con (h1) (by rfl) leA ?_)|(refine CallZ.con (fun hg=>h1) qu (by rfl) ?_)|refine zC 300 (h2) ?_|refine zG 300 (fun hg=>h2) ?_|(refine CallY.con (h2) (by rfl) leA ?_)|(refine CallZ.con (fun hg=>h2) qu (by rfl) ?_)|refine zC 300 (h3) ?_|refine zG 300 (fun hg=>h3) ?_|(refine CallY.con (h3) (by rfl) leA ?_)|(refine CallZ.con (fun hg=>h3) qu (by rfl) ?_)|(refine ql (fun _=>rfl) 300 (h1) qc (by (repeat' (first|exact trivial|exact Le.refl _|(refine And.intro ?_ ?_))) <;> fail) (by rfl) (by kernel_rfl) ?_)|(refine qv (fun _=>rfl) 300 (fun hg=>h1) (fun hg=>qc) (fun hg=>(by (repeat' (first|exact trivial|exact Le.refl _|exact Le.cnd hg|(refine And.intro ?_ ?_))) <;> fail)) (by rfl) (by kernel_rfl) ?_)|(refine ql (fun _=>rfl) 300 (h2) qc (by (repeat' (first|exact trivial|exact Le.refl _|(refine And.intro ?_ ?_))) <;> fail) (by rfl) (by kernel_rfl) ?_)|(refine qv (fun _=>rfl) 300 (fun hg=>h2) (fun hg=>qc) (fun hg=>(by (repeat' (first|exact trivial|exact Le.refl _|exact Le.cnd hg|(refine And.intro ?_ ?_))) <;> fail)) (by rfl) (by kernel_rfl) ?_)|(refine ql (fun _=>rfl) 300 (h3) qc (by (repeat' (first|exact trivial|exact Le.refl _|(refine And.intro ?_ ?_))) <;> fail) (by rfl) (by kernel_rfl) ?_)|(refine qv (fun _=>rfl) 300 (fun hg=>h3) (fun hg=>qc) (fun hg=>(by (repeat' (first|exact trivial|exact Le.refl _|exact Le.cnd hg|(refine And.intro ?_ ?_))) <;> fail)) (by rfl) (by kernel_rfl) ?_)|refine zD 300 ?_|(apply zB <;> intro hb <;> (try simp [-zd] at hb) <;> try (exfalso;omega))|refine Ob.intro ?_ ?_))
     exact Le.of_eq (congrArg AV.bool (by simp))
   | false=>
    obtain ⟨hL,hT⟩:=jcj (sep:=[32,47,47,10]) (by decide) hs hz
    obtain ⟨hE,hM⟩:=jcd joz (by decide) hs hz
    have h3:=jce hM
    have h2:=qnc _ (zx hL (by omega))
    have hA:=fun i=>zx (jci [32,47,47,10] (Lx.lexAll s).1 i) hL
    rw [← jch] at h2 h3 hE hL
    unfold Lx.lexAV at h0
    generalize (Lx.lexAll s).2=F at h0 hz
    generalize (Lx.lexAll s).1=ts at h0 h2 h3 hE hL hT hA
    obtain ⟨e,at_⟩:=F
    obtain rfl:e=0:=hz
    generalize hG:qgt [32,47,47,10] ts=G at h2 h3 hE hL hA
    have hGs:=jcg [32,47,47,10] ts
    rw [hG] at hGs
    have hG0:G 0=[]:=by rw [← hG];rfl
    generalize jg s=R1 at h1 h3 hE
    generalize jg (G ts.length)=R2 at h2 h3 hE
    obtain ⟨l1,e1,a1⟩:=R1
    obtain ⟨l2,e2,a2⟩:=R2
    obtain rfl:e1=e2:=hE
    refine zK {} 300 Try.func5 (fun c0 rdb=>?_)
    (repeat' ((conv=>whnf);first|refine zA ?_|refine zO ?_|refine Ob.auto ?_|refine zC 300 (qbp) ?_|refine zG 300 (fun hg=>qbp) ?_|(refine CallY.con (qbp) (by rfl) leA ?_)|(refine CallZ.con (fun hg=>qbp) qu (by rfl) ?_)|refine zC 300 (h0) ?_|refine zG 300 (fun hg=>h0) ?_|(refine CallY.con (h0) (by rfl) leA ?_)|(refine CallZ.con (fun hg=>h0) qu (by rfl) ?_)|(refine ql (fun _=>rfl) 300 (qbp) qc (by (repeat' (first|exact trivial|exact Le.refl _|(refine And.intro ?_ ?_))) <;> fail) (by rfl) (by kernel_rfl) ?_)|(refine qv (fun _=>rfl) 300 (fun hg=>qbp) (fun hg=>qc) (fun hg=>(by (repeat' (first|exact trivial|exact Le.refl _|exact Le.cnd hg|(refine And.intro ?_ ?_))) <;> fail)) (by rfl) (by kernel_rfl) ?_)|(refine ql (fun _=>rfl) 300 (h0) qc (by (repeat' (first|exact trivial|exact Le.refl _|(refine And.intro ?_ ?_))) <;> fail) (by rfl) (by kernel_rfl) ?_)|(refine qv (fun _=>rfl) 300 (fun hg=>h0) (fun hg=>qc) (fun hg=>(by (repeat' (first|exact trivial|exact Le.refl _|exact Le.cnd hg|(refine And.intro ?_ ?_))) <;> fail)) (by rfl) (by kernel_rfl) ?_)|refine zD 300 ?_|(apply zB <;> intro hb <;> (try simp [-zd] at hb) <;> try (exfalso;omega))|refine Ob.intro ?_ ?_))
    ((conv=>whnf);refine qdc (fun _=>rfl) 300 1 (fun i:Nat=>[(8,iv i),(7,.str (G i))]) (fun _=>[]) (fun i=>i≤ts.length) (fun i=>ts.length - i) (0) (xh _) ⟨Le.refl _,Le.of_eq (congrArg AV.str hG0.symm),trivial⟩ qa (fun _=>rfl) (by kernel_rfl) ?_;(conv=>whnf))
    intro i hi
    have hGl:=hA i
    by_cases hil:i<ts.length
    ·have hGi:G (i+1)=((G i++(ts.getD i Lx.tok0).s)++[32,47,47])++[10]:=by rw [hGs i hil,xp _ [32,47,47] [10]];rfl
     have hle:=hA (i+1)
     rw [hGi] at hle
     simp only [zr] at hle
     have hq1:(G i).length+(ts.getD i Lx.tok0).s.length≤9223372036854775807:=by omega
     have hq2:(G i++(ts.getD i Lx.tok0).s).length+3≤9223372036854775807:=by rw [zr];simp only [zh,xz] at hle;omega
     have hq3:(G i++(ts.getD i Lx.tok0).s++[32,47,47]).length+1≤9223372036854775807:=by rw [zr,zr];simp only [zh,xz] at hle ⊢;omega
     (repeat' ((conv=>whnf);first|refine zA ?_|refine zO ?_|refine Ob.auto ?_|(refine Ob.intro (by (first|exact ⟨by omega,by omega⟩|exact hq1|exact hq2|exact hq3)) ?_)|refine zD 300 ?_|(apply zB <;> intro hb <;> (try simp [-zd] at hb) <;> try (exfalso;omega))|refine Ob.intro ?_ ?_))
     ((conv=>whnf);refine ⟨i+1,hil,⟨⟨Le.refl _,Le.of_eq (congrArg AV.str hGi.symm),trivial⟩,qa⟩,⟨qa,qa⟩,?_⟩;(first|omega|(dsimp only;omega)|skip))
    ·obtain rfl:i=ts.length:=by omega
     (repeat' ((conv=>whnf);first|refine zA ?_|refine zO ?_|refine Ob.auto ?_|refine zI ?_|refine zC 300 (h1) ?_|refine zG 300 (fun hg=>h1) ?_|(refine CallY.con (h1) (by rfl) leA ?_)|(refine CallZ.con (fun hg=>h1) qu (by rfl) ?_)|refine zC 300 (h2) ?_|refine zG 300 (fun hg=>h2) ?_|(refine CallY.con (h2) (by rfl) leA ?_)|(refine CallZ.con (fun hg=>h2) qu (by rfl) ?_)|refine zC 300 (h3) ?_|refine zG 300 (fun hg=>h3) ?_|(refine CallY.con (h3) (by rfl) leA ?_)|(refine CallZ.con (fun hg=>h3) qu (by rfl) ?_)|(refine ql (fun _=>rfl) 300 (h1) qc (by (repeat' (first|exact trivial|exact Le.refl _|(refine And.intro ?_ ?_))) <;> fail) (by rfl) (by kernel_rfl) ?_)|(refine qv (fun _=>rfl) 300 (fun hg=>h1) (fun hg=>qc) (fun hg=>(by (repeat' (first|exact trivial|exact Le.refl _|exact Le.cnd hg|(refine And.intro ?_ ?_))) <;> fail)) (by rfl) (by kernel_rfl) ?_)|(refine ql (fun _=>rfl) 300 (h2) qc (by (repeat' (first|exact trivial|exact Le.refl _|(refine And.intro ?_ ?_))) <;> fail) (by rfl) (by kernel_rfl) ?_)|(refine qv (fun _=>rfl) 300 (fun hg=>h2) (fun hg=>qc) (fun hg=>(by (repeat' (first|exact trivial|exact Le.refl _|exact Le.cnd hg|(refine And.intro ?_ ?_))) <;> fail)) (by rfl) (by kernel_rfl) ?_)|(refine ql (fun _=>rfl) 300 (h3) qc (by (repeat' (first|exact trivial|exact Le.refl _|(refine And.intro ?_ ?_))) <;> fail) (by rfl) (by kernel_rfl) ?_)|(refine qv (fun _=>rfl) 300 (fun hg=>h3) (fun hg=>qc) (fun hg=>(by (repeat' (first|exact trivial|exact Le.refl _|exact Le.cnd hg|(refine And.intro ?_ ?_))) <;> fail)) (by rfl) (by kernel_rfl) ?_)|refine zD 300 ?_|(apply zB <;> intro hb <;> (try simp [-zd] at hb) <;> try (exfalso;omega))|refine Ob.intro ?_ ?_))
     exact Le.of_eq (congrArg AV.bool (by simp))
  ·unfold Lx.lexAV at h0
   generalize (Lx.lexAll s).2=F at h0 hz
   generalize (Lx.lexAll s).1=ts at h0
   obtain ⟨e,at_⟩:=F
   replace hz:e≠0:=hz
   refine zK {} 300 Try.func5 (fun c0 rdb=>?_)
   (repeat' ((conv=>whnf);first|refine zA ?_|refine zO ?_|refine Ob.auto ?_|refine zC 300 (qbp) ?_|refine zG 300 (fun hg=>qbp) ?_|(refine CallY.con (qbp) (by rfl) leA ?_)|(refine CallZ.con (fun hg=>qbp) qu (by rfl) ?_)|refine zC 300 (h0) ?_|refine zG 300 (fun hg=>h0) ?_|(refine CallY.con (h0) (by rfl) leA ?_)|(refine CallZ.con (fun hg=>h0) qu (by rfl) ?_)|(refine ql (fun _=>rfl) 300 (qbp) qc (by (repeat' (first|exact trivial|exact Le.refl _|(refine And.intro ?_ ?_))) <;> fail) (by rfl) (by kernel_rfl) ?_)|(refine qv (fun _=>rfl) 300 (fun hg=>qbp) (fun hg=>qc) (fun hg=>(by (repeat' (first|exact trivial|exact Le.refl _|exact Le.cnd hg|(refine And.intro ?_ ?_))) <;> fail)) (by rfl) (by kernel_rfl) ?_)|(refine ql (fun _=>rfl) 300 (h0) qc (by (repeat' (first|exact trivial|exact Le.refl _|(refine And.intro ?_ ?_))) <;> fail) (by rfl) (by kernel_rfl) ?_)|(refine qv (fun _=>rfl) 300 (fun hg=>h0) (fun hg=>qc) (fun hg=>(by (repeat' (first|exact trivial|exact Le.refl _|exact Le.cnd hg|(refine And.intro ?_ ?_))) <;> fail)) (by rfl) (by kernel_rfl) ?_)|refine zD 300 ?_|(apply zB <;> intro hb <;> (try simp [-zd] at hb) <;> try (exfalso;omega))|refine Ob.intro ?_ ?_))
   all_goals exact Le.refl _
 ·refine zK {} 300 Try.func5 (fun c0 rdb=>?_)
  (repeat' ((conv=>whnf);first|refine zA ?_|refine zO ?_|refine Ob.auto ?_|refine zC 300 (qbp) ?_|refine zG 300 (fun hg=>qbp) ?_|(refine CallY.con (qbp) (by rfl) leA ?_)|(refine CallZ.con (fun hg=>qbp) qu (by rfl) ?_)|(refine ql (fun _=>rfl) 300 (qbp) qc (by (repeat' (first|exact trivial|exact Le.refl _|(refine And.intro ?_ ?_))) <;> fail) (by rfl) (by kernel_rfl) ?_)|(refine qv (fun _=>rfl) 300 (fun hg=>qbp) (fun hg=>qc) (fun hg=>(by (repeat' (first|exact trivial|exact Le.refl _|exact Le.cnd hg|(refine And.intro ?_ ?_))) <;> fail)) (by rfl) (by kernel_rfl) ?_)|refine zD 300 ?_|(apply zB <;> intro hb <;> (try simp [-zd] at hb) <;> try (exfalso;omega))|refine Ob.intro ?_ ?_))
  all_goals exact Le.refl _
end Go.Proofs.Ythfaleaojlnnoaa
