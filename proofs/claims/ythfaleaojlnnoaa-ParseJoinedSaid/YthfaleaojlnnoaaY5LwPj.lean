/- The law ParseJoined. -/
import Derived.Test.YthfaleaojlnnoaaY536
import Derived.Test.YthfaleaojlnnoaaY538
import Derived.Test.YthfaleaojlnnoaaY52
set_option linter.unusedSimpArgs false
set_option linter.unusedVariables false
namespace Go.Proofs.Ythfaleaojlnnoaa
open List renaming getD_eq_getElem?_getD → zd
open Go Go.Sx Go.RowKit Go.St Pa
set_option maxRecDepth 100000
set_option maxHeartbeats 4000000
theorem jth (s:List UInt8) (hs:4000<s.length):Con Try.prog 17 [.str s] (Lx.lexAV s):=by
 refine zK {owns:=[(4,(41,3))]} 300 Try.func17 (fun c0 rdb=>?_)
 repeat' ((conv=>whnf);first|refine Ob.auto ?_|(apply zB <;> intro hb <;> (try simp at hb) <;> try (exfalso;omega))|refine Ob.intro ?_ ?_)
 ·rw [Lx.lexAV,Lx.lexAll,zf hs]
  exact Le.tup ⟨Le.nils 3 _,Le.refl _,trivial⟩
theorem jfq (s:List UInt8):Con Try.prog 12 [.str s] (qon (jk s)):=by
 by_cases hs:s.length≤1000000
 ·exact jss s hs
 have e1:Lx.lexAll s=([],(12,0)):=by unfold Lx.lexAll;rw [zf (by omega)]
 have e:jk s=([],(12,0)):=by unfold jk;rw [e1];rfl
 have ht:=jth s (by omega)
 unfold Lx.lexAV at ht
 rw [e1] at ht
 rw [e]
 refine zK {} 300 Try.func12 (fun c0 rdb=>?_)
 (repeat' ((conv=>whnf);first|refine zA ?_|refine zO ?_|refine Ob.auto ?_|refine zC 300 (ht) ?_|refine zG 300 (fun hg=>ht) ?_|(refine CallY.con (ht) (by rfl) leA ?_)|(refine CallZ.con (fun hg=>ht) jf (by rfl) ?_)|(refine qm (fun _=>rfl) 300 (ht) qe (by (repeat' (first|exact trivial|exact Le.refl _|(refine And.intro ?_ ?_))) <;> fail) (by rfl) (by kernel_rfl) ?_)|(refine qx (fun _=>rfl) 300 (fun hg=>ht) (fun hg=>qe) (fun hg=>(by (repeat' (first|exact trivial|exact Le.refl _|exact Le.cnd hg|(refine And.intro ?_ ?_))) <;> fail)) (by rfl) (by kernel_rfl) ?_)|refine zD 300 ?_|(apply zB <;> intro hb <;> (try simp [-zd] at hb) <;> try (exfalso;omega))|refine Ob.intro ?_ ?_))
 ·exact Le.tup ⟨Le.nils _ _,Le.refl _,trivial⟩
theorem jfr {s:List UInt8} (hs:4000<s.length):(jk s).2.1≠0:=by
 have e1:Lx.lexAll s=([],(12,0)):=by unfold Lx.lexAll;rw [zf hs]
 unfold jk
 rw [e1,zf (by decide)]
 decide
theorem jfs (s:List UInt8):((jk s).1.getD 0 nd0).kids.length≤800:=by
 by_cases h:0<(jk s).1.length
 ·exact ((qsj s).2 _ (qqz h)).2.2
 ·rw [zd,zak (by omega)]
  exact xu _
theorem jft {x y:Nat} (hx:x≤800) (hy:y≤800):inR .i64 ((x:Int)+y):=⟨by show (-9223372036854775808:Int)≤_;omega,by show _≤(9223372036854775807:Int);omega⟩
theorem jti {x y:Nat} (hx:x≤800) (hy:y≤800):inR .i64 ((x:Int)+y - 1):=⟨by show (-9223372036854775808:Int)≤_;omega,by show _≤(9223372036854775807:Int);omega⟩
theorem jtj {a b:List UInt8} (hs:¬ a.length+b.length≤1500) (hw:IntKind.i64.wrap ((a.length:Int)+b.length)≤1500) (h:((jk a).2.1=0∧(jk b).2.1=0)∧((jk a).1.length:Int)+(jk b).1.length≤700):False:=by
 by_cases ha:4000<a.length
 ·exact jfr ha h.1.1
 by_cases hb:4000<b.length
 ·exact jfr hb h.1.2
 rw [wrap_in ⟨by show (-9223372036854775808:Int)≤_;omega,by show _≤(9223372036854775807:Int);omega⟩] at hw
 omega
theorem jtk (a b:List UInt8):Con Try.prog 8 [.str a,.str b] (.bool true):=by
 have c1:=jfq a
 have c2:=jfq b
 have z1:=(qsj a).1
 have z2:=(qsj b).1
 by_cases hs:a.length+b.length≤1500
 ·have h1:=qww ((a++[10])++b) (by rw [zv,zv,List.length_singleton];omega)
  have hj:=jtg (a:=a) (b:=b) hs
  have eab:(a++[10])++b=a++10::b:=by rw [xt];rfl
  rw [← eab] at hj
  have z3:=(qsj ((a++[10])++b)).1
  have k1:=jfs a
  have k2:=jfs b
  generalize jk ((a++[10])++b)=N at h1 hj z3
  generalize jk a=L at c1 hj z1 k1
  generalize jk b=M at c2 hj z2 k2
  obtain ⟨l,e,ea⟩:=L
  obtain ⟨m,g,ga⟩:=M
  obtain ⟨n,h,ha⟩:=N
  simp only at hj z1 z2 z3 k1 k2
  refine zK {} 300 Try.func8 (fun c0 rdb=>?_)
  (repeat' ((conv=>whnf);first|refine zA ?_|refine zO ?_|refine Ob.auto ?_|(refine Ob.intro (by (first|exact ⟨by omega,by omega⟩|exact fun h=>⟨h,h,jft k1 k2⟩|exact fun h=>⟨h,h,jft z1 z2⟩|exact fun h=>⟨h,jti z1 z2⟩|exact fun h=>⟨h,h,by dsimp only;omega,by dsimp only;omega⟩|(show a.length+1≤9223372036854775807;omega)|(show (a++[10]).length+b.length≤9223372036854775807;rw [zv,List.length_singleton];omega))) ?_)|refine zC 300 (qfp) ?_|refine zG 300 (fun hg=>qfp) ?_|(refine CallY.con (qfp) (by rfl) leA ?_)|(refine CallZ.con (fun hg=>qfp) jf (by rfl) ?_)|refine zC 300 (c1) ?_|refine zG 300 (fun hg=>c1) ?_|(refine CallY.con (c1) (by rfl) leA ?_)|(refine CallZ.con (fun hg=>c1) jf (by rfl) ?_)|refine zC 300 (c2) ?_|refine zG 300 (fun hg=>c2) ?_|(refine CallY.con (c2) (by rfl) leA ?_)|(refine CallZ.con (fun hg=>c2) jf (by rfl) ?_)|refine zC 300 (h1) ?_|refine zG 300 (fun hg=>h1) ?_|(refine CallY.con (h1) (by rfl) leA ?_)|(refine CallZ.con (fun hg=>h1) jf (by rfl) ?_)|(refine qm (fun _=>rfl) 300 (qfp) qe (by (repeat' (first|exact trivial|exact Le.refl _|(refine And.intro ?_ ?_))) <;> fail) (by rfl) (by kernel_rfl) ?_)|(refine qx (fun _=>rfl) 300 (fun hg=>qfp) (fun hg=>qe) (fun hg=>(by (repeat' (first|exact trivial|exact Le.refl _|exact Le.cnd hg|(refine And.intro ?_ ?_))) <;> fail)) (by rfl) (by kernel_rfl) ?_)|(refine qm (fun _=>rfl) 300 (c1) qe (by (repeat' (first|exact trivial|exact Le.refl _|(refine And.intro ?_ ?_))) <;> fail) (by rfl) (by kernel_rfl) ?_)|(refine qx (fun _=>rfl) 300 (fun hg=>c1) (fun hg=>qe) (fun hg=>(by (repeat' (first|exact trivial|exact Le.refl _|exact Le.cnd hg|(refine And.intro ?_ ?_))) <;> fail)) (by rfl) (by kernel_rfl) ?_)|(refine qm (fun _=>rfl) 300 (c2) qe (by (repeat' (first|exact trivial|exact Le.refl _|(refine And.intro ?_ ?_))) <;> fail) (by rfl) (by kernel_rfl) ?_)|(refine qx (fun _=>rfl) 300 (fun hg=>c2) (fun hg=>qe) (fun hg=>(by (repeat' (first|exact trivial|exact Le.refl _|exact Le.cnd hg|(refine And.intro ?_ ?_))) <;> fail)) (by rfl) (by kernel_rfl) ?_)|(refine qm (fun _=>rfl) 300 (h1) qe (by (repeat' (first|exact trivial|exact Le.refl _|(refine And.intro ?_ ?_))) <;> fail) (by rfl) (by kernel_rfl) ?_)|(refine qx (fun _=>rfl) 300 (fun hg=>h1) (fun hg=>qe) (fun hg=>(by (repeat' (first|exact trivial|exact Le.refl _|exact Le.cnd hg|(refine And.intro ?_ ?_))) <;> fail)) (by rfl) (by kernel_rfl) ?_)|refine zD 300 ?_|(apply zB <;> intro hb <;> (try simp [-zd] at hb) <;> try (exfalso;omega))|refine Ob.intro ?_ ?_))
  ·exact Le.refl _
  ·have hb:=‹(e=0∧g=0)∧(l.length:Int)+m.length≤700›
   obtain ⟨j1,j2,j3,j4,j5⟩:=hj hb.1.1 hb.1.2 (by omega)
   cases j1
   refine Le.of_eq (congrArg AV.bool ?_)
   have e1:((n.length:Int) == (l.length:Int)+m.length - 1)=true:=beq_iff_eq.2 (by omega)
   have e2:(((n.getD 0 nd0).kids.length:Int) == ((l.getD 0 nd0).kids.length:Int)+(m.getD 0 nd0).kids.length)=true:=beq_iff_eq.2 (by omega)
   show (true && ((n.length:Int) == (l.length:Int)+m.length - 1) && (((n.getD 0 nd0).kids.length:Int) == ((l.getD 0 nd0).kids.length:Int)+(m.getD 0 nd0).kids.length))=true
   rw [e1,e2];rfl
 ·refine zK {wraps:=[18]} 300 Try.func8 (fun c0 rdb=>?_)
  (repeat' ((conv=>whnf);first|refine zA ?_|refine zO ?_|refine Ob.auto ?_|refine zC 300 (qfp) ?_|refine zG 300 (fun hg=>qfp) ?_|(refine CallY.con (qfp) (by rfl) leA ?_)|(refine CallZ.con (fun hg=>qfp) jf (by rfl) ?_)|refine zC 300 (c1) ?_|refine zG 300 (fun hg=>c1) ?_|(refine CallY.con (c1) (by rfl) leA ?_)|(refine CallZ.con (fun hg=>c1) jf (by rfl) ?_)|refine zC 300 (c2) ?_|refine zG 300 (fun hg=>c2) ?_|(refine CallY.con (c2) (by rfl) leA ?_)|(refine CallZ.con (fun hg=>c2) jf (by rfl) ?_)|(refine qm (fun _=>rfl) 300 (qfp) qe (by (repeat' (first|exact trivial|exact Le.refl _|(refine And.intro ?_ ?_))) <;> fail) (by rfl) (by kernel_rfl) ?_)|(refine qx (fun _=>rfl) 300 (fun hg=>qfp) (fun hg=>qe) (fun hg=>(by (repeat' (first|exact trivial|exact Le.refl _|exact Le.cnd hg|(refine And.intro ?_ ?_))) <;> fail)) (by rfl) (by kernel_rfl) ?_)|(refine qm (fun _=>rfl) 300 (c1) qe (by (repeat' (first|exact trivial|exact Le.refl _|(refine And.intro ?_ ?_))) <;> fail) (by rfl) (by kernel_rfl) ?_)|(refine qx (fun _=>rfl) 300 (fun hg=>c1) (fun hg=>qe) (fun hg=>(by (repeat' (first|exact trivial|exact Le.refl _|exact Le.cnd hg|(refine And.intro ?_ ?_))) <;> fail)) (by rfl) (by kernel_rfl) ?_)|(refine qm (fun _=>rfl) 300 (c2) qe (by (repeat' (first|exact trivial|exact Le.refl _|(refine And.intro ?_ ?_))) <;> fail) (by rfl) (by kernel_rfl) ?_)|(refine qx (fun _=>rfl) 300 (fun hg=>c2) (fun hg=>qe) (fun hg=>(by (repeat' (first|exact trivial|exact Le.refl _|exact Le.cnd hg|(refine And.intro ?_ ?_))) <;> fail)) (by rfl) (by kernel_rfl) ?_)|refine zD 300 ?_|(apply zB <;> intro hb <;> (try simp [-zd] at hb) <;> try (exfalso;omega))|refine Ob.intro ?_ ?_))
  ·exact Le.refl _
  ·exact Le.refl _
  all_goals exact (jtj hs (by assumption) (by assumption)).elim
end Go.Proofs.Ythfaleaojlnnoaa
