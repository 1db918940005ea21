/- The law ParseDeep. -/
import Derived.Test.YthfaleaojlnnoaaY640
import Derived.Test.YthfaleaojlnnoaaY641
import Derived.Test.YthfaleaojlnnoaaY62
set_option linter.unusedSimpArgs false
set_option linter.unusedVariables false
namespace Go.Proofs.Ythfaleaojlnnoaa
open List renaming getD_eq_getElem?_getD → zd
open Go Go.Sx Go.RowKit Go.St Pa
set_option maxRecDepth 100000
set_option maxHeartbeats 4000000
def repS:Nat→List UInt8→List UInt8
 | 0,_=>[]
 | n+1,x=>repS n x++x
theorem qok {x:List UInt8} (h:x.length≤10):∀ i,(repS i x).length≤10 * i
 | 0=>xa _
 | i+1=>by rw [repS,zs];have:=qok h i;omega
theorem qwd (c:UInt8):∀ i,repS i [c]=List.replicate i c
 | 0=>rfl
 | i+1=>by rw [repS,qwd c i,List.replicate_succ']
theorem qwe {x y:List UInt8} (h:x.length≤10) (hy:y.length≤10) {i k:Nat} (hi:i≤k) (hk:k<256):(y++repS i x).length≤3000:=by
 have:=qok h i
 rw [zs];omega
theorem qfc {x y:List UInt8} {a b:Nat} (h:x.length≤a) (hy:y.length≤b) (hab:a+b≤9000):x.length+y.length≤9223372036854775807:=by omega
theorem qhq {x y:List UInt8} {a b:Nat} (h:x.length≤a) (hy:y.length≤b):(x++y).length≤a+b:=by rw [zs];omega
theorem jqv (n w:Int) (hn:0≤n∧n<256) (hw:0≤w∧w<256):Con Try.prog 6 [.int .u8 n,.int .u8 w] (.bool true):=by
 have h1:0≤w.tmod 3:=Int.tmod_nonneg _ hw.1
 have h2:w.tmod 3<3:=Int.tmod_lt_of_pos _ (by decide)
 obtain ⟨k,rfl⟩:∃ k:Nat,n=k:=⟨n.toNat,by omega⟩
 have hk:k<256:=by omega
 rcases (show w.tmod 3=0∨w.tmod 3=1∨w.tmod 3=2 by omega) with h|h|h
 ·have l1:∀ i,i≤k→([112,114,111,99,32,112,32,123,32]++repS i [105,102,32,49,32,123,32]).length≤3000:=fun i hi=>qwe (by decide) (by decide) hi hk
  have l2:(([112,114,111,99,32,112,32,123,32]++repS k [105,102,32,49,32,123,32])++[]).length≤3010:=qhq (l1 k (zh _)) (show ([]:List UInt8).length≤10 by decide)
  have l3:∀ i,i≤k→((([112,114,111,99,32,112,32,123,32]++repS k [105,102,32,49,32,123,32])++[])++repS i [125,32]).length≤3010+2550:=fun i hi=>qhq l2 (zx (qok (show ([125,32]:List UInt8).length≤10 by decide) i) (by omega))
  have l4:(((([112,114,111,99,32,112,32,123,32]++repS k [105,102,32,49,32,123,32])++[])++repS k [125,32])++[125]).length≤3010+2550+10:=qhq (l3 k (zh _)) (show ([125]:List UInt8).length≤10 by decide)
  have c1:=qoi (((([112,114,111,99,32,112,32,123,32]++repS k [105,102,32,49,32,123,32])++[])++repS k [125,32])++[125]) (by omega)
  have c2:=qvx (((([112,114,111,99,32,112,32,123,32]++repS k [105,102,32,49,32,123,32])++[])++repS k [125,32])++[125]) (by omega)
  have c3:=qvw (((([112,114,111,99,32,112,32,123,32]++repS k [105,102,32,49,32,123,32])++[])++repS k [125,32])++[125])
  generalize qan (((([112,114,111,99,32,112,32,123,32]++repS k [105,102,32,49,32,123,32])++[])++repS k [125,32])++[125])=R at c1 c2 c3
  obtain ⟨l,e,a⟩:=R
  refine zK {} 300 Try.func6 (fun c0 rdb=>?_)
  (repeat' ((conv=>whnf);first|refine zA ?_|refine zO ?_|refine Ob.auto ?_|(refine Ob.intro (by (first|exact ⟨by omega,by omega⟩)) ?_)|refine zC 300 (qdk) ?_|refine zG 300 (fun hg=>qdk) ?_|(refine CallY.con (qdk) (by rfl) leA ?_)|(refine CallZ.con (fun hg=>qdk) qz (by rfl) ?_)|(refine qj (fun _=>rfl) 300 (qdk) qc (by (repeat' (first|exact trivial|exact Le.refl _|(refine And.intro ?_ ?_))) <;> fail) (by rfl) (by kernel_rfl) ?_)|(refine qv (fun _=>rfl) 300 (fun hg=>qdk) (fun hg=>qc) (fun hg=>(by (repeat' (first|exact trivial|exact Le.refl _|exact Le.cnd hg|(refine And.intro ?_ ?_))) <;> fail)) (by rfl) (by kernel_rfl) ?_)|refine zD 300 ?_|(apply zB <;> intro hb <;> (try simp [-zd] at hb) <;> try (exfalso;omega))|refine Ob.intro ?_ ?_))
  ((conv=>whnf);refine qag (fun _=>rfl) 300 1 (fun i:Nat=>[(10,iv i),(9,.str ([112,114,111,99,32,112,32,123,32]++repS i [105,102,32,49,32,123,32]))]) (fun _=>[]) (fun i=>i≤k) (fun i=>k - i) (0) (xa _) qa qa (fun _=>rfl) (by kernel_rfl) ?_;(conv=>whnf))
  intro i hi
  have l1i:=l1 i hi
  by_cases hik:i<k
  ·(repeat' ((conv=>whnf);first|refine zA ?_|refine zO ?_|refine Ob.auto ?_|(refine Ob.intro (by (first|exact ⟨by omega,by omega⟩|exact qfc l1i (show ([105,102,32,49,32,123,32]:List UInt8).length≤10 by decide) (by decide))) ?_)|refine zD 300 ?_|(apply zB <;> intro hb <;> (try simp [-zd] at hb) <;> (try (exfalso;omega)) <;> (try contradiction))|refine Ob.intro ?_ ?_))
   ((conv=>whnf);refine ⟨i+1,hik,⟨⟨Le.refl _,Le.of_eq (congrArg AV.str (xd _ _ _)),trivial⟩,qa⟩,⟨qa,qa⟩,?_⟩;(first|omega|(dsimp only;omega)|skip))
  ·obtain rfl:i=k:=by omega
   (repeat' ((conv=>whnf);first|refine zA ?_|refine zO ?_|refine Ob.auto ?_|(refine Ob.intro (by (first|exact ⟨by omega,by omega⟩|exact qfc l1i (show ([]:List UInt8).length≤10 by decide) (by decide))) ?_)|refine zD 300 ?_|(apply zB <;> intro hb <;> (try simp [-zd] at hb) <;> (try (exfalso;omega)) <;> (try contradiction))|refine Ob.intro ?_ ?_))
   ((conv=>whnf);refine qag (fun _=>rfl) 300 1 (fun j:Nat=>[(11,iv j),(9,.str ((([112,114,111,99,32,112,32,123,32]++repS i [105,102,32,49,32,123,32])++[])++repS j [125,32]))]) (fun _=>[]) (fun j=>j≤i) (fun j=>i - j) (0) (xa _) ⟨Le.refl _,Le.of_eq (congrArg AV.str (zak _).symm),trivial⟩ qa (fun _=>rfl) (by kernel_rfl) ?_;(conv=>whnf))
   intro j hj
   have l3j:=l3 j hj
   by_cases hjk:j<i
   ·(repeat' ((conv=>whnf);first|refine zA ?_|refine zO ?_|refine Ob.auto ?_|(refine Ob.intro (by (first|exact ⟨by omega,by omega⟩|exact qfc l3j (show ([125,32]:List UInt8).length≤10 by decide) (by decide))) ?_)|refine zD 300 ?_|(apply zB <;> intro hb <;> (try simp [-zd] at hb) <;> (try (exfalso;omega)) <;> (try contradiction))|refine Ob.intro ?_ ?_))
    ((conv=>whnf);refine ⟨j+1,hjk,⟨⟨Le.refl _,Le.of_eq (congrArg AV.str (xd _ _ _)),trivial⟩,qa⟩,⟨qa,qa⟩,?_⟩;(first|omega|(dsimp only;omega)|skip))
   ·obtain rfl:j=i:=by omega
    (repeat' ((conv=>whnf);first|refine zA ?_|refine zO ?_|refine Ob.auto ?_|(refine Ob.intro (by (first|exact ⟨by omega,by omega⟩|exact qfc l3j (show ([125]:List UInt8).length≤10 by decide) (by decide))) ?_)|refine zC 300 (c1) ?_|refine zG 300 (fun hg=>c1) ?_|(refine CallY.con (c1) (by rfl) leA ?_)|(refine CallZ.con (fun hg=>c1) qz (by rfl) ?_)|refine zC 300 (c2) ?_|refine zG 300 (fun hg=>c2) ?_|(refine CallY.con (c2) (by rfl) leA ?_)|(refine CallZ.con (fun hg=>c2) qz (by rfl) ?_)|refine zC 300 (c3) ?_|refine zG 300 (fun hg=>c3) ?_|(refine CallY.con (c3) (by rfl) leA ?_)|(refine CallZ.con (fun hg=>c3) qz (by rfl) ?_)|(refine qj (fun _=>rfl) 300 (c1) qc (by (repeat' (first|exact trivial|exact Le.refl _|(refine And.intro ?_ ?_))) <;> fail) (by rfl) (by kernel_rfl) ?_)|(refine qv (fun _=>rfl) 300 (fun hg=>c1) (fun hg=>qc) (fun hg=>(by (repeat' (first|exact trivial|exact Le.refl _|exact Le.cnd hg|(refine And.intro ?_ ?_))) <;> fail)) (by rfl) (by kernel_rfl) ?_)|(refine qj (fun _=>rfl) 300 (c2) qc (by (repeat' (first|exact trivial|exact Le.refl _|(refine And.intro ?_ ?_))) <;> fail) (by rfl) (by kernel_rfl) ?_)|(refine qv (fun _=>rfl) 300 (fun hg=>c2) (fun hg=>qc) (fun hg=>(by (repeat' (first|exact trivial|exact Le.refl _|exact Le.cnd hg|(refine And.intro ?_ ?_))) <;> fail)) (by rfl) (by kernel_rfl) ?_)|(refine qj (fun _=>rfl) 300 (c3) qc (by (repeat' (first|exact trivial|exact Le.refl _|(refine And.intro ?_ ?_))) <;> fail) (by rfl) (by kernel_rfl) ?_)|(refine qv (fun _=>rfl) 300 (fun hg=>c3) (fun hg=>qc) (fun hg=>(by (repeat' (first|exact trivial|exact Le.refl _|exact Le.cnd hg|(refine And.intro ?_ ?_))) <;> fail)) (by rfl) (by kernel_rfl) ?_)|refine zD 300 ?_|(apply zB <;> intro hb <;> (try simp [-zd] at hb) <;> (try (exfalso;omega)) <;> (try contradiction))|refine Ob.intro ?_ ?_))
    refine Le.of_eq (congrArg AV.bool ?_)
    have hX:(w.tmod 3 != 2 || ((e == 0) == decide ((j:Int)≤200)))=true:=by
     rw [h]
     rfl
    show ((e == e && (a == a && true)) && true && (w.tmod 3 != 2 || ((e == 0) == decide ((j:Int)≤200))))=true
    rw [hX]
    simp
 ·have l1:∀ i,i≤k→([115,97,102,101,32]++repS i [45]).length≤3000:=fun i hi=>qwe (by decide) (by decide) hi hk
  have l2:(([115,97,102,101,32]++repS k [45])++[49]).length≤3010:=qhq (l1 k (zh _)) (show ([49]:List UInt8).length≤10 by decide)
  have l3:∀ i,i≤k→((([115,97,102,101,32]++repS k [45])++[49])++repS i []).length≤3010+2550:=fun i hi=>qhq l2 (zx (qok (show ([]:List UInt8).length≤10 by decide) i) (by omega))
  have l4:(((([115,97,102,101,32]++repS k [45])++[49])++repS k [])++[59]).length≤3010+2550+10:=qhq (l3 k (zh _)) (show ([59]:List UInt8).length≤10 by decide)
  have c1:=qoi (((([115,97,102,101,32]++repS k [45])++[49])++repS k [])++[59]) (by omega)
  have c2:=qvx (((([115,97,102,101,32]++repS k [45])++[49])++repS k [])++[59]) (by omega)
  have c3:=qvw (((([115,97,102,101,32]++repS k [45])++[49])++repS k [])++[59])
  generalize qan (((([115,97,102,101,32]++repS k [45])++[49])++repS k [])++[59])=R at c1 c2 c3
  obtain ⟨l,e,a⟩:=R
  refine zK {} 300 Try.func6 (fun c0 rdb=>?_)
  (repeat' ((conv=>whnf);first|refine zA ?_|refine zO ?_|refine Ob.auto ?_|(refine Ob.intro (by (first|exact ⟨by omega,by omega⟩)) ?_)|refine zC 300 (qdk) ?_|refine zG 300 (fun hg=>qdk) ?_|(refine CallY.con (qdk) (by rfl) leA ?_)|(refine CallZ.con (fun hg=>qdk) qz (by rfl) ?_)|(refine qj (fun _=>rfl) 300 (qdk) qc (by (repeat' (first|exact trivial|exact Le.refl _|(refine And.intro ?_ ?_))) <;> fail) (by rfl) (by kernel_rfl) ?_)|(refine qv (fun _=>rfl) 300 (fun hg=>qdk) (fun hg=>qc) (fun hg=>(by (repeat' (first|exact trivial|exact Le.refl _|exact Le.cnd hg|(refine And.intro ?_ ?_))) <;> fail)) (by rfl) (by kernel_rfl) ?_)|refine zD 300 ?_|(apply zB <;> intro hb <;> (try simp [-zd] at hb) <;> try (exfalso;omega))|refine Ob.intro ?_ ?_))
  ((conv=>whnf);refine qag (fun _=>rfl) 300 1 (fun i:Nat=>[(10,iv i),(9,.str ([115,97,102,101,32]++repS i [45]))]) (fun _=>[]) (fun i=>i≤k) (fun i=>k - i) (0) (xa _) qa qa (fun _=>rfl) (by kernel_rfl) ?_;(conv=>whnf))
  intro i hi
  have l1i:=l1 i hi
  by_cases hik:i<k
  ·(repeat' ((conv=>whnf);first|refine zA ?_|refine zO ?_|refine Ob.auto ?_|(refine Ob.intro (by (first|exact ⟨by omega,by omega⟩|exact qfc l1i (show ([45]:List UInt8).length≤10 by decide) (by decide))) ?_)|refine zD 300 ?_|(apply zB <;> intro hb <;> (try simp [-zd] at hb) <;> (try (exfalso;omega)) <;> (try contradiction))|refine Ob.intro ?_ ?_))
   ((conv=>whnf);refine ⟨i+1,hik,⟨⟨Le.refl _,Le.of_eq (congrArg AV.str (xd _ _ _)),trivial⟩,qa⟩,⟨qa,qa⟩,?_⟩;(first|omega|(dsimp only;omega)|skip))
  ·obtain rfl:i=k:=by omega
   (repeat' ((conv=>whnf);first|refine zA ?_|refine zO ?_|refine Ob.auto ?_|(refine Ob.intro (by (first|exact ⟨by omega,by omega⟩|exact qfc l1i (show ([49]:List UInt8).length≤10 by decide) (by decide))) ?_)|refine zD 300 ?_|(apply zB <;> intro hb <;> (try simp [-zd] at hb) <;> (try (exfalso;omega)) <;> (try contradiction))|refine Ob.intro ?_ ?_))
   ((conv=>whnf);refine qag (fun _=>rfl) 300 1 (fun j:Nat=>[(11,iv j),(9,.str ((([115,97,102,101,32]++repS i [45])++[49])++repS j []))]) (fun _=>[]) (fun j=>j≤i) (fun j=>i - j) (0) (xa _) ⟨Le.refl _,Le.of_eq (congrArg AV.str (zak _).symm),trivial⟩ qa (fun _=>rfl) (by kernel_rfl) ?_;(conv=>whnf))
   intro j hj
   have l3j:=l3 j hj
   by_cases hjk:j<i
   ·(repeat' ((conv=>whnf);first|refine zA ?_|refine zO ?_|refine Ob.auto ?_|(refine Ob.intro (by (first|exact ⟨by omega,by omega⟩|exact qfc l3j (show ([]:List UInt8).length≤10 by decide) (by decide))) ?_)|refine zD 300 ?_|(apply zB <;> intro hb <;> (try simp [-zd] at hb) <;> (try (exfalso;omega)) <;> (try contradiction))|refine Ob.intro ?_ ?_))
    ((conv=>whnf);refine ⟨j+1,hjk,⟨⟨Le.refl _,Le.of_eq (congrArg AV.str (xd _ _ _)),trivial⟩,qa⟩,⟨qa,qa⟩,?_⟩;(first|omega|(dsimp only;omega)|skip))
   ·obtain rfl:j=i:=by omega
    (repeat' ((conv=>whnf);first|refine zA ?_|refine zO ?_|refine Ob.auto ?_|(refine Ob.intro (by (first|exact ⟨by omega,by omega⟩|exact qfc l3j (show ([59]:List UInt8).length≤10 by decide) (by decide))) ?_)|refine zC 300 (c1) ?_|refine zG 300 (fun hg=>c1) ?_|(refine CallY.con (c1) (by rfl) leA ?_)|(refine CallZ.con (fun hg=>c1) qz (by rfl) ?_)|refine zC 300 (c2) ?_|refine zG 300 (fun hg=>c2) ?_|(refine CallY.con (c2) (by rfl) leA ?_)|(refine CallZ.con (fun hg=>c2) qz (by rfl) ?_)|refine zC 300 (c3) ?_|refine zG 300 (fun hg=>c3) ?_|(refine CallY.con (c3) (by rfl) leA ?_)|(refine CallZ.con (fun hg=>c3) qz (by rfl) ?_)|(refine qj (fun _=>rfl) 300 (c1) qc (by (repeat' (first|exact trivial|exact Le.refl _|(refine And.intro ?_ ?_))) <;> fail) (by rfl) (by kernel_rfl) ?_)|(refine qv (fun _=>rfl) 300 (fun hg=>c1) (fun hg=>qc) (fun hg=>(by (repeat' (first|exact trivial|exact Le.refl _|exact Le.cnd hg|(refine And.intro ?_ ?_))) <;> fail)) (by rfl) (by kernel_rfl) ?_)|(refine qj (fun _=>rfl) 300 (c2) qc (by (repeat' (first|exact trivial|exact Le.refl _|(refine And.intro ?_ ?_))) <;> fail) (by rfl) (by kernel_rfl) ?_)|(refine qv (fun _=>rfl) 300 (fun hg=>c2) (fun hg=>qc) (fun hg=>(by (repeat' (first|exact trivial|exact Le.refl _|exact Le.cnd hg|(refine And.intro ?_ ?_))) <;> fail)) (by rfl) (by kernel_rfl) ?_)|(refine qj (fun _=>rfl) 300 (c3) qc (by (repeat' (first|exact trivial|exact Le.refl _|(refine And.intro ?_ ?_))) <;> fail) (by rfl) (by kernel_rfl) ?_)|(refine qv (fun _=>rfl) 300 (fun hg=>c3) (fun hg=>qc) (fun hg=>(by (repeat' (first|exact trivial|exact Le.refl _|exact Le.cnd hg|(refine And.intro ?_ ?_))) <;> fail)) (by rfl) (by kernel_rfl) ?_)|refine zD 300 ?_|(apply zB <;> intro hb <;> (try simp [-zd] at hb) <;> (try (exfalso;omega)) <;> (try contradiction))|refine Ob.intro ?_ ?_))
    refine Le.of_eq (congrArg AV.bool ?_)
    have hX:(w.tmod 3 != 2 || ((e == 0) == decide ((j:Int)≤200)))=true:=by
     rw [h]
     rfl
    show ((e == e && (a == a && true)) && true && (w.tmod 3 != 2 || ((e == 0) == decide ((j:Int)≤200))))=true
    rw [hX]
    simp
 ·have l1:∀ i,i≤k→([115,97,102,101,32]++repS i [40]).length≤3000:=fun i hi=>qwe (by decide) (by decide) hi hk
  have l2:(([115,97,102,101,32]++repS k [40])++[49]).length≤3010:=qhq (l1 k (zh _)) (show ([49]:List UInt8).length≤10 by decide)
  have l3:∀ i,i≤k→((([115,97,102,101,32]++repS k [40])++[49])++repS i [41]).length≤3010+2550:=fun i hi=>qhq l2 (zx (qok (show ([41]:List UInt8).length≤10 by decide) i) (by omega))
  have l4:(((([115,97,102,101,32]++repS k [40])++[49])++repS k [41])++[59]).length≤3010+2550+10:=qhq (l3 k (zh _)) (show ([59]:List UInt8).length≤10 by decide)
  have c1:=qoi (((([115,97,102,101,32]++repS k [40])++[49])++repS k [41])++[59]) (by omega)
  have c2:=qvx (((([115,97,102,101,32]++repS k [40])++[49])++repS k [41])++[59]) (by omega)
  have c3:=qvw (((([115,97,102,101,32]++repS k [40])++[49])++repS k [41])++[59])
  have hT:(((([115,97,102,101,32]++repS k [40])++[49])++repS k [41])++[59])=qio k:=by
   rw [qwd,qwd]
   unfold qio
   simp
  have hP:(qan (((([115,97,102,101,32]++repS k [40])++[49])++repS k [41])++[59])).2.1=0↔k≤200:=by rw [hT];exact jqu (by omega)
  generalize qan (((([115,97,102,101,32]++repS k [40])++[49])++repS k [41])++[59])=R at c1 c2 c3 hP
  obtain ⟨l,e,a⟩:=R
  refine zK {} 300 Try.func6 (fun c0 rdb=>?_)
  (repeat' ((conv=>whnf);first|refine zA ?_|refine zO ?_|refine Ob.auto ?_|(refine Ob.intro (by (first|exact ⟨by omega,by omega⟩)) ?_)|refine zC 300 (qdk) ?_|refine zG 300 (fun hg=>qdk) ?_|(refine CallY.con (qdk) (by rfl) leA ?_)|(refine CallZ.con (fun hg=>qdk) qz (by rfl) ?_)|(refine qj (fun _=>rfl) 300 (qdk) qc (by (repeat' (first|exact trivial|exact Le.refl _|(refine And.intro ?_ ?_))) <;> fail) (by rfl) (by kernel_rfl) ?_)|(refine qv (fun _=>rfl) 300 (fun hg=>qdk) (fun hg=>qc) (fun hg=>(by (repeat' (first|exact trivial|exact Le.refl _|exact Le.cnd hg|(refine And.intro ?_ ?_))) <;> fail)) (by rfl) (by kernel_rfl) ?_)|refine zD 300 ?_|(apply zB <;> intro hb <;> (try simp [-zd] at hb) <;> try (exfalso;omega))|refine Ob.intro ?_ ?_))
  ((conv=>whnf);refine qag (fun _=>rfl) 300 1 (fun i:Nat=>[(10,iv i),(9,.str ([115,97,102,101,32]++repS i [40]))]) (fun _=>[]) (fun i=>i≤k) (fun i=>k - i) (0) (xa _) qa qa (fun _=>rfl) (by kernel_rfl) ?_;(conv=>whnf))
  intro i hi
  have l1i:=l1 i hi
  by_cases hik:i<k
  ·(repeat' ((conv=>whnf);first|refine zA ?_|refine zO ?_|refine Ob.auto ?_|(refine Ob.intro (by (first|exact ⟨by omega,by omega⟩|exact qfc l1i (show ([40]:List UInt8).length≤10 by decide) (by decide))) ?_)|refine zD 300 ?_|(apply zB <;> intro hb <;> (try simp [-zd] at hb) <;> (try (exfalso;omega)) <;> (try contradiction))|refine Ob.intro ?_ ?_))
   ((conv=>whnf);refine ⟨i+1,hik,⟨⟨Le.refl _,Le.of_eq (congrArg AV.str (xd _ _ _)),trivial⟩,qa⟩,⟨qa,qa⟩,?_⟩;(first|omega|(dsimp only;omega)|skip))
  ·obtain rfl:i=k:=by omega
   (repeat' ((conv=>whnf);first|refine zA ?_|refine zO ?_|refine Ob.auto ?_|(refine Ob.intro (by (first|exact ⟨by omega,by omega⟩|exact qfc l1i (show ([49]:List UInt8).length≤10 by decide) (by decide))) ?_)|refine zD 300 ?_|(apply zB <;> intro hb <;> (try simp [-zd] at hb) <;> (try (exfalso;omega)) <;> (try contradiction))|refine Ob.intro ?_ ?_))
   ((conv=>whnf);refine qag (fun _=>rfl) 300 1 (fun j:Nat=>[(11,iv j),(9,.str ((([115,97,102,101,32]++repS i [40])++[49])++repS j [41]))]) (fun _=>[]) (fun j=>j≤i) (fun j=>i - j) (0) (xa _) ⟨Le.refl _,Le.of_eq (congrArg AV.str (zak _).symm),trivial⟩ qa (fun _=>rfl) (by kernel_rfl) ?_;(conv=>whnf))
   intro j hj
   have l3j:=l3 j hj
   by_cases hjk:j<i
   ·(repeat' ((conv=>whnf);first|refine zA ?_|refine zO ?_|refine Ob.auto ?_|(refine Ob.intro (by (first|exact ⟨by omega,by omega⟩|exact qfc l3j (show ([41]:List UInt8).length≤10 by decide) (by decide))) ?_)|refine zD 300 ?_|(apply zB <;> intro hb <;> (try simp [-zd] at hb) <;> (try (exfalso;omega)) <;> (try contradiction))|refine Ob.intro ?_ ?_))
    ((conv=>whnf);refine ⟨j+1,hjk,⟨⟨Le.refl _,Le.of_eq (congrArg AV.str (xd _ _ _)),trivial⟩,qa⟩,⟨qa,qa⟩,?_⟩;(first|omega|(dsimp only;omega)|skip))
   ·obtain rfl:j=i:=by omega
    (repeat' ((conv=>whnf);first|refine zA ?_|refine zO ?_|refine Ob.auto ?_|(refine Ob.intro (by (first|exact ⟨by omega,by omega⟩|exact qfc l3j (show ([59]:List UInt8).length≤10 by decide) (by decide))) ?_)|refine zC 300 (c1) ?_|refine zG 300 (fun hg=>c1) ?_|(refine CallY.con (c1) (by rfl) leA ?_)|(refine CallZ.con (fun hg=>c1) qz (by rfl) ?_)|refine zC 300 (c2) ?_|refine zG 300 (fun hg=>c2) ?_|(refine CallY.con (c2) (by rfl) leA ?_)|(refine CallZ.con (fun hg=>c2) qz (by rfl) ?_)|refine zC 300 (c3) ?_|refine zG 300 (fun hg=>c3) ?_|(refine CallY.con (c3) (by rfl) leA ?_)|(refine CallZ.con (fun hg=>c3) qz (by rfl) ?_)|(refine qj (fun _=>rfl) 300 (c1) qc (by (repeat' (first|exact trivial|exact Le.refl _|(refine And.intro ?_ ?_))) <;> fail) (by rfl) (by kernel_rfl) ?_)|(refine qv (fun _=>rfl) 300 (fun hg=>c1) (fun hg=>qc) (fun hg=>(by (repeat' (first|exact trivial|exact Le.refl _|exact Le.cnd hg|(refine And.intro ?_ ?_))) <;> fail)) (by rfl) (by kernel_rfl) ?_)|(refine qj (fun _=>rfl) 300 (c2) qc (by (repeat' (first|exact trivial|exact Le.refl _|(refine And.intro ?_ ?_))) <;> fail) (by rfl) (by kernel_rfl) ?_)|(refine qv (fun _=>rfl) 300 (fun hg=>c2) (fun hg=>qc) (fun hg=>(by (repeat' (first|exact trivial|exact Le.refl _|exact Le.cnd hg|(refine And.intro ?_ ?_))) <;> fail)) (by rfl) (by kernel_rfl) ?_)|(refine qj (fun _=>rfl) 300 (c3) qc (by (repeat' (first|exact trivial|exact Le.refl _|(refine And.intro ?_ ?_))) <;> fail) (by rfl) (by kernel_rfl) ?_)|(refine qv (fun _=>rfl) 300 (fun hg=>c3) (fun hg=>qc) (fun hg=>(by (repeat' (first|exact trivial|exact Le.refl _|exact Le.cnd hg|(refine And.intro ?_ ?_))) <;> fail)) (by rfl) (by kernel_rfl) ?_)|refine zD 300 ?_|(apply zB <;> intro hb <;> (try simp [-zd] at hb) <;> (try (exfalso;omega)) <;> (try contradiction))|refine Ob.intro ?_ ?_))
    refine Le.of_eq (congrArg AV.bool ?_)
    have hX:(w.tmod 3 != 2 || ((e == 0) == decide ((j:Int)≤200)))=true:=by
     rw [h]
     have hP':e=0↔j≤200:=hP
     by_cases h200:j≤200
     ·rw [hP'.2 h200,zaj (show (j:Int)≤200 by omega)];rfl
     ·rw [beq_eq_false_iff_ne.2 (fun h=>h200 (hP'.1 h)),zw (show ¬ (j:Int)≤200 by omega)];rfl
    show ((e == e && (a == a && true)) && true && (w.tmod 3 != 2 || ((e == 0) == decide ((j:Int)≤200))))=true
    rw [hX]
    simp
end Go.Proofs.Ythfaleaojlnnoaa
