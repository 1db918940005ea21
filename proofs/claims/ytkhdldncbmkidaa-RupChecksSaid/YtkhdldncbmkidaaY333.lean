/- Some texts of the library, one behind the other. -/
import Derived.Test.YtkhdldncbmkidaaY324
import Derived.Test.YtkhdldncbmkidaaY332
import Derived.Test.YtkhdldncbmkidaaY3RuWE
import Derived.Test.YtkhdldncbmkidaaY3RuF
import Derived.Test.YtkhdldncbmkidaaY32
set_option linter.unusedSimpArgs false
set_option linter.unusedVariables false
section
namespace Go.Proofs.Ytkhdldncbmkidaa
open List renaming getD_eq_getElem?_getD → zd
open Go Go.Sx Go.RowKit Go.St Go.Cl
set_option maxRecDepth 100000
set_option maxHeartbeats 4000000
theorem jkd {r:List Int} {i:Nat} (h1:1≤i) (h:i<r.length) (e:r.getD i 0=-(r.getD (i - 1) 0)):qr r=true:=by
 unfold qr
 rw [zat]
 exact ⟨i,List.mem_range.2 h,by rw [zh,xp,beq_iff_eq];exact ⟨h1,e⟩⟩
theorem jke {r:List Int} (h:∀ j,1≤j→j<r.length→r.getD j 0≠-(r.getD (j - 1) 0)):qr r=false:=by
 rw [zbo]
 intro k
 unfold qr at k
 rw [zat] at k
 obtain ⟨i,hi,k⟩:=k
 rw [zh,xp,beq_iff_eq] at k
 exact h i k.1 (List.mem_range.1 hi) k.2
theorem jkf (c:List Int) (hl:c.length≤1000000) (hr:rightB c=false):Con Try.prog 23 [ints c] (.tup [ints [],.bool false]):=by
 have hc:=qnc c hl
 rw [hr] at hc
 refine zK {} 300 Try.func23 (fun c0 rdb=>?_)
 (repeat' ((conv=>whnf);first|refine zA ?_|refine zO ?_|refine Ob.auto ?_|refine zC 300 (hc) ?_|refine zG 300 (fun hg=>hc) ?_|(refine CallY.con (hc) (by rfl) leA ?_)|(refine CallZ.con (fun hg=>hc) qf (by rfl) ?_)|(refine qg (fun _=>rfl) 300 (hc) qc (by (repeat' (first|exact trivial|exact Le.refl _|(refine And.intro ?_ ?_))) <;> fail) (by rfl) (by kernel_rfl) ?_)|(refine qi (fun _=>rfl) 300 (fun hg=>hc) (fun hg=>qc) (fun hg=>(by (repeat' (first|exact trivial|exact Le.refl _|exact Le.cnd hg|(refine And.intro ?_ ?_))) <;> fail)) (by rfl) (by kernel_rfl) ?_)|refine zD 300 ?_|(apply zB <;> intro hb <;> (try simp [-zd] at hb) <;> try (exfalso;omega))|refine Ob.intro ?_ ?_))
 exact Le.tup ⟨Le.nils _ _,Le.refl _,trivial⟩
theorem jkg (ep:Nat) (c:List Int) (h0:0<(qax c).length) (hn:(qax c).length≤1000000) :
  Trip Try.prog 49 [.own 0 0 ep (qax c).length] [.row [] 3 1 ep (qax c).length (intF (qax c))] (.own 0 0 (ep+1) (normL c).length) [(0,.row [] 3 1 (ep+1) (normL c).length (intF (normL c++List.replicate ((qax c).length - (normL c).length) 0)))] 1:=
 jjz ep (qax c) h0 hn
theorem jkh (c:List Int) (hl:c.length≤1000000) (h0:0<c.length) (hr:rightB c=true):Con Try.prog 23 [ints c] (.tup [ints (normL c),.bool (qr (normL c))]):=by
 have hc:=qnc c hl
 rw [hr] at hc
 have hs:(qax c).length=c.length:=by simp [qax]
 refine zK {} 300 Try.func23 (fun c0 rdb=>?_)
 (repeat' ((conv=>whnf);first|refine zA ?_|refine zO ?_|refine Ob.auto ?_|refine zC 300 (hc) ?_|refine zG 300 (fun hg=>hc) ?_|(refine CallY.con (hc) (by rfl) leA ?_)|(refine CallZ.con (fun hg=>hc) qf (by rfl) ?_)|(refine qg (fun _=>rfl) 300 (hc) qc (by (repeat' (first|exact trivial|exact Le.refl _|(refine And.intro ?_ ?_))) <;> fail) (by rfl) (by kernel_rfl) ?_)|(refine qi (fun _=>rfl) 300 (fun hg=>hc) (fun hg=>qc) (fun hg=>(by (repeat' (first|exact trivial|exact Le.refl _|exact Le.cnd hg|(refine And.intro ?_ ?_))) <;> fail)) (by rfl) (by kernel_rfl) ?_)|refine zD 300 ?_|(apply zB <;> intro hb <;> (try simp [-zd] at hb) <;> try (exfalso;omega))|refine Ob.intro ?_ ?_))
 ·exact ⟨Int.le_refl 0,by omega,by omega,show (c.length:Int) * ((8:Nat):Int)≤140737488355328 by omega⟩
 ((conv=>whnf);refine jm (fun _=>rfl) 300 [0] (jjy 0 c h0 hl hr) (by kernel_rfl) ⟨Le.of_eq (congrArg (AV.own 0 0 0) (by simp)),Le.refl _,trivial⟩ ⟨⟨⟨rfl,rfl,rfl⟩,rfl,by simp,fun k hk=>LeL.of_eq ?_⟩,trivial⟩ (by exact qdb rfl) (by exact qdb rfl) (by kernel_rfl) ?_)
 ·have hk:k<0+c.length:=hk
  show appF 0 _ c.length (encL (fun n=>[iv n]) 0 c) k=intF c k
  unfold appF
  rw [ze (zo k),za hk]
  rfl
 (repeat' ((conv=>whnf);first|refine zA ?_|refine zO ?_|refine Ob.auto ?_|refine zD 300 ?_|(apply zB <;> intro hb <;> (try simp [-zd] at hb) <;> try (exfalso;omega))|refine Ob.intro ?_ ?_))
 ((conv=>whnf);refine jm (fun _=>rfl) 300 [0] (jkg 0 c (by rw [hs];exact h0) (by rw [hs];exact hl)) (by kernel_rfl) ⟨Le.of_eq (congrArg (AV.own 0 0 0) (by simp [hs])),trivial⟩ ⟨⟨⟨rfl,rfl,rfl⟩,rfl,by simp [hs],fun k hk=>LeL.of_eq rfl⟩,trivial⟩ (by exact qdb rfl) (by exact qdb rfl) (by kernel_rfl) ?_)
 (repeat' ((conv=>whnf);first|refine zA ?_|refine zO ?_|refine Ob.auto ?_|refine zD 300 ?_|(apply zB <;> intro hb <;> (try simp [-zd] at hb) <;> try (exfalso;omega))|refine Ob.intro ?_ ?_))
 have hnl:=qey c
 have hlit:∀ k,k<(normL c).length→-100000≤(normL c).getD k 0∧(normL c).getD k 0≤100000:=fun k hk=>by
  have h1:=List.all_eq_true.1 hr _ (norm_mem.1 (qdc (normL c) k 0 hk))
  exact ((jy _).1 h1).2
 ((conv=>whnf);refine qw (fun _=>rfl) 300 1 (fun i:Nat=>[(5,iv i)]) (fun _=>[(0,.row [] 3 1 1 (normL c).length (intF (normL c)))]) (fun i=>1≤i∧∀ j,1≤j→j<i→j<(normL c).length→(normL c).getD j 0≠-((normL c).getD (j - 1) 0)) (fun i=>(normL c).length - i) (1) (⟨zj _,fun j h1 h2=>by omega⟩) qa ⟨⟨⟨rfl,rfl,rfl⟩,rfl,rfl,fun k hk=>LeL.of_eq ?_⟩,trivial⟩ (fun _=>rfl) (by kernel_rfl) ?_;(conv=>whnf))
 ·have hk:k<(normL c).length:=hk
  show intF (normL c++_) k=intF (normL c) k
  unfold intF
  rw [zd,zn hk,← zd]
 intro i hi
 have h1:=hlit ((i:Int) - 1).toNat
 (repeat' ((conv=>whnf);first|refine zA ?_|refine zO ?_|refine Ob.auto ?_|refine zI ?_|refine zD 300 ?_|(apply zB <;> intro hb <;> (try simp [-zd] at hb) <;> try (exfalso;omega))|refine Ob.intro ?_ ?_))
 ·refine Le.tup ⟨Le.slc rfl fun k hk=>rfl,Le.of_eq (congrArg AV.bool (jkd hi.1 (by assumption) hb).symm),trivial⟩
 ·((conv=>whnf);refine ⟨i+1,⟨by omega,fun j h1 h2 h3=>by
   by_cases hj:j<i
   ·exact hi.2 j h1 hj h3
   ·obtain rfl:j=i:=by omega
    exact hb⟩,⟨qa,qa⟩,⟨qa,qa⟩,?_⟩;(first|omega|(dsimp only;omega)|skip))
 ·refine Le.tup ⟨Le.slc rfl fun k hk=>rfl,Le.of_eq (congrArg AV.bool (jke fun j h1 h2=>hi.2 j h1 (by omega) h2).symm),trivial⟩
theorem jki:Con Try.prog 23 [ints []] (.tup [ints [],.bool false]):=by
 have hc:=qnc [] (by decide)
 refine zK {} 300 Try.func23 (fun c0 rdb=>?_)
 (repeat' ((conv=>whnf);first|refine zA ?_|refine zO ?_|refine Ob.auto ?_|(refine Ob.intro (by (exact ⟨Int.le_refl 0,by decide,by decide,by decide⟩)) ?_)|refine zC 300 (hc) ?_|refine zG 300 (fun hg=>hc) ?_|(refine CallY.con (hc) (by rfl) leA ?_)|(refine CallZ.con (fun hg=>hc) qf (by rfl) ?_)|(refine qg (fun _=>rfl) 300 (hc) qc (by (repeat' (first|exact trivial|exact Le.refl _|(refine And.intro ?_ ?_))) <;> fail) (by rfl) (by kernel_rfl) ?_)|(refine qi (fun _=>rfl) 300 (fun hg=>hc) (fun hg=>qc) (fun hg=>(by (repeat' (first|exact trivial|exact Le.refl _|exact Le.cnd hg|(refine And.intro ?_ ?_))) <;> fail)) (by rfl) (by kernel_rfl) ?_)|refine zD 300 ?_|(apply zB <;> intro hb <;> (try simp [-zd] at hb) <;> try (exfalso;omega))|refine Ob.intro ?_ ?_))
 ·exact Le.tup ⟨Le.nils _ _,Le.refl _,trivial⟩
 ((conv=>whnf);refine jm (fun _=>rfl) 300 [0] (jkb 0 (fun _=>[])) (by kernel_rfl) ⟨Le.refl _,Le.refl _,trivial⟩ ⟨⟨⟨rfl,rfl,rfl⟩,rfl,rfl,fun k hk=>absurd hk (zo k)⟩,trivial⟩ (by exact qdb rfl) (by exact qdb rfl) (by kernel_rfl) ?_)
 (repeat' ((conv=>whnf);first|refine zA ?_|refine zO ?_|refine Ob.auto ?_|refine zD 300 ?_|(apply zB <;> intro hb <;> (try simp [-zd] at hb) <;> try (exfalso;omega))|refine Ob.intro ?_ ?_))
 ((conv=>whnf);refine jm (fun _=>rfl) 300 [0] (jkc 0 (fun _=>[])) (by kernel_rfl) ⟨Le.refl _,trivial⟩ ⟨⟨⟨rfl,rfl,rfl⟩,rfl,rfl,fun k hk=>absurd hk (zo k)⟩,trivial⟩ (by exact qdb rfl) (by exact qdb rfl) (by kernel_rfl) ?_)
 (repeat' ((conv=>whnf);first|refine zA ?_|refine zO ?_|refine Ob.auto ?_|refine zD 300 ?_|(apply zB <;> intro hb <;> (try simp [-zd] at hb) <;> try (exfalso;omega))|refine Ob.intro ?_ ?_))
 ((conv=>whnf);refine qw (fun _=>rfl) 300 1 (fun i:Nat=>[(5,iv i)]) (fun _=>[(0,.row [] 3 1 0 0 (fun _=>[]))]) (fun i=>1≤i) (fun i=>0) (1) (zj _) qa ⟨⟨⟨rfl,rfl,rfl⟩,rfl,rfl,fun k hk=>absurd hk (zo k)⟩,trivial⟩ (fun _=>rfl) (by kernel_rfl) ?_;(conv=>whnf))
 intro i hi
 (repeat' ((conv=>whnf);first|refine zA ?_|refine zO ?_|refine Ob.auto ?_|refine zI ?_|refine zD 300 ?_|(apply zB <;> intro hb <;> (try simp [-zd] at hb) <;> try (exfalso;omega))|refine Ob.intro ?_ ?_))
 exact Le.tup ⟨Le.slc rfl fun k hk=>absurd hk (zo k),Le.refl _,trivial⟩
theorem qnj (c:List Int) (hl:c.length≤1000000):Con Try.prog 23 [ints c] (.tup [ints (bif rightB c then normL c else []),.bool (rightB c && qr (normL c))]):=by
 cases hr:rightB c with
 | false=>exact jkf c hl hr
 | true=>
  by_cases h0:0<c.length
  ·exact jkh c hl h0 hr
  ·obtain rfl:c=[]:=xb (by omega)
   have e:normL []=[]:=xb (Nat.le_zero.1 (qey []))
   rw [e]
   exact jki
end Go.Proofs.Ytkhdldncbmkidaa
end
section
namespace Go.Proofs.Ytkhdldncbmkidaa
open List renaming getD_eq_getElem?_getD → zd
open Go Go.Sx Go.RowKit Go.Ru Go.Cl
set_option maxRecDepth 100000
set_option maxHeartbeats 8000000
def stP (k:K):List (Nat × SO):=qp (names [1,3,4,0,2,5,6,7,8,9,10] 11) (idx 0 (stK k))
theorem qrk (k:K):NamedL (stP k) (names [1,3,4,0,2,5,6,7,8,9,10] 11) [1,3,4,0,2,5,6,7,8,9,10] (stK k):=by
 unfold stP stK boxK
 repeat' (first|exact trivial|exact rfl|exact Le.refl _|exact SoLe.refl _|exact fun _ _=>LeL.refl _|exact fun _ _ _ _=>LeL.refl _|refine And.intro ?_ ?_)
theorem jkj:MT [(1,.box 59 [.nils,.mapv 0,.nils,.nils,.nils,.nils,iv 0,.nils,iv 0,.bool false,.bool true]),(0,.box mapTy [.keys []])] (stP K.init) 2 11:=by
 refine (jgk (b:=0) 3 1 (by rfl)).trans ?_
 refine (qhf 1 0 68 2 (by rfl) (by rfl)).trans ?_
 refine (qvk 3 3 1 (by rfl)).trans ?_
 refine (qhf 1 2 23 1 (by rfl) (by rfl)).trans ?_
 refine (qvk 5 3 1 (by rfl)).trans ?_
 refine (qhf 1 3 62 1 (by rfl) (by rfl)).trans ?_
 refine (qhf 1 4 3 1 (by rfl) (by rfl)).trans ?_
 refine (qhf 1 5 3 1 (by rfl) (by rfl)).trans ?_
 refine (qhf 1 7 3 1 (by rfl) (by rfl)).trans ?_
 refine MT.weak fun i x hx=>SubSt.get ?_ i x hx
 unfold stP stK boxK
 repeat' (first|exact trivial|exact rfl|exact Le.refl _|exact SoLe.refl _|exact fun i hi=>absurd hi (zo _)|exact fun i j hi=>absurd hi (zo _)|exact fun _ _=>LeL.refl _|exact fun _ _ _ _=>LeL.refl _|refine And.intro ?_ ?_)
theorem qyi {cs nf:List (List Int)} {k:K} (hD:Doc cs k nf):∀ p,p<k.keys.length→(nums k p).length≤100000:=fun p hp=>by
 obtain ⟨_,h2,h3⟩:=hD.L.kv p hp
 refine zr (qgc h2 fun n hn=>?_) hD.I.s.p.c.n
 have:=h3 n hn
 unfold aliveN at this
 split at this
 ·rename_i h;rw [← hD.F.ln];exact h.1
 ·cases this
theorem jkk:Sz K.init:=⟨rfl,rfl,zv _,zv _⟩
def qcp (cs:List (List Int)) (i:Nat):K:=(K.init.grow (qe cs).toNat).fill (cs.take i)
theorem jkl {cs:List (List Int)} {i:Nat} (hi:i<cs.length):qcp cs (i+1)=(qcp cs i).add (normL (cs.getD i [])) (qr (normL (cs.getD i []))):=by
 unfold qcp K.fill
 rw [zal,zb hi,List.foldl_append,zd,zb hi];rfl
theorem jkm {cs:List (List Int)} (hr:cs.all rightB=true) (hl:cs.length≤100000) (hc:∀ c∈cs,c.length≤100000) (i:Nat) (hi:i≤cs.length):∃ nf,Doc (cs.take i) (qcp cs i) nf∧(qcp cs i).lits.length=i:=by
 have hg:=grL9 cs
 have hG:=grown K.init (qe cs).toNat
 have h0:Doc [] (K.init.grow (qe cs).toNat) []:=by
  refine ⟨qhk qxl (by omega),⟨by rw [hG.li];rfl,fun n hn=>absurd hn (zo _),fun n hn=>absurd hn (zo _)⟩,?_,fun n hn=>absurd hn (zo _),rfl,.refl _⟩
  have hk:(K.init.grow (qe cs).toNat).keys=[]:=hG.ks
  exact ⟨by rw [hk];exact zbh,by rw [hk];exact zbh,fun p hp=>by rw [hk] at hp;exact absurd hp (zo _),fun p hp=>by rw [hk] at hp;exact absurd hp (zo _),fun n s hn=>by
   unfold aliveN at hn
   rw [ze (fun h=>zo _ h.1)] at hn
   cases hn⟩
 have hz:(K.init.grow (qe cs).toNat).lits.length=0:=congrArg List.length hG.li
 have hti:(cs.take i).length=i:=by rw [zu];omega
 obtain ⟨nf,h1,h2⟩:=qrb (cs.take i) [] _ [] h0 (List.all_eq_true.2 fun c hm=>List.all_eq_true.1 hr c (zab hm)) (by rw [hz,hti];omega) (fun c hm=>hc c (zab hm))
 exact ⟨nf,h1,by unfold qcp;rw [h2,hz,hti];omega⟩
theorem qyj (cs:List (List Int)) (hr:cs.all rightB=true) (hl:cs.length≤100000) (hc:∀ c∈cs,c.length≤100000) :
  Trip Try.prog 21 [qak cs] [] (.ptr 1 0) (stP (qau cs)) 11:=by
 have hg:=grL9 cs
 have hgc:=qxw cs (by omega) (fun c h=>zr (hc c h) (by decide))
 have hgt:=qxo K.init jkk (qe cs).toNat (by omega)
 have hgn:qe cs=(((qe cs).toNat:Nat):Int):=by omega
 refine zL {} 300 Try.func21 (fun c0 rdb mpb=>?_)
 (repeat' ((conv=>whnf);first|refine zO ?_|refine Ob.auto ?_|(refine Ob.intro (by (first|exact ⟨by omega,by omega⟩)) ?_)|refine zC 300 (hgc) ?_|refine zG 300 (fun hg=>hgc) ?_|(refine CallY.con (hgc) (by rfl) leA ?_)|(refine CallZ.con (fun hg=>hgc) qf (by rfl) ?_)|(refine qg (fun _=>rfl) 300 (hgc) qc (by (repeat' (first|exact trivial|exact Le.refl _|(refine And.intro ?_ ?_))) <;> fail) (by rfl) (by kernel_rfl) ?_)|(refine qi (fun _=>rfl) 300 (fun hg=>hgc) (fun hg=>qc) (fun hg=>(by (repeat' (first|exact trivial|exact Le.refl _|exact Le.cnd hg|(refine And.intro ?_ ?_))) <;> fail)) (by rfl) (by kernel_rfl) ?_)|(apply zB <;> intro hb <;> (try simp [-zd] at hb) <;> try (exfalso;omega))|refine Ob.intro ?_ ?_))
 refine MT.call jkj ?_
 ((conv=>whnf);refine jm (fun _=>rfl) 300 [1,3,4,0,2,5,6,7,8,9,10] hgt (by kernel_rfl) ⟨Le.refl _,Le.of_eq (congrArg (AV.int _) hgn),trivial⟩ (by exact qrk K.init) (by exact qn K.init) (by exact qn _) (by kernel_rfl) ?_)
 have h0:K.init.grow (qe cs).toNat=qcp cs 0:=rfl
 rw [h0]
 replace hgt:=Hid.in hgt
 replace hgn:=Hid.in hgn
 replace hgc:=Hid.in hgc
 (repeat' ((conv=>whnf);first|refine zO ?_|refine Ob.auto ?_|(refine Ob.intro (by (first|exact ⟨by omega,by omega⟩)) ?_)|(apply zB <;> intro hb <;> (try simp [-zd] at hb) <;> try (exfalso;omega))|refine Ob.intro ?_ ?_))
 ((conv=>whnf);refine qw (fun _=>rfl) 300 1 (fun i:Nat=>[(15,iv i)]) (fun i=>stP (qcp cs i)) (fun i=>i≤cs.length) (fun i=>cs.length - i) (0) (zv _) qa (by (unfold stP stK boxK;repeat' (first|exact trivial|exact rfl|exact Le.refl _|exact SoLe.refl _|exact fun _ _=>LeL.refl _|exact fun _ _ _ _=>LeL.refl _|refine And.intro ?_ ?_))) (fun _=>rfl) (by kernel_rfl) ?_;(conv=>whnf))
 intro i hi
 by_cases hil:i<cs.length
 ·obtain ⟨nf,hD,hli⟩:=jkm hr hl hc i hi
  have hnx:=jkl hil
  have hci:rightB (cs.getD i [])=true:=List.all_eq_true.1 hr _ (qj hil)
  have hcl:=hc _ (qj (d:=[]) hil)
  have hnc:=qnj (cs.getD i []) (by omega)
  rw [hci] at hnc
  simp only [cond_true,zbc] at hnc
  have hat:=qyc (qcp cs i) hD.I hD.L (qyi hD) (normL (cs.getD i [])) (qec hci) (zr (qey _) hcl) (by omega) (qr (normL (cs.getD i []))) ((qix (qdq hci)).trans (qqq (qdq hci))) (qqy _)
  rw [← hnx] at hat
  generalize qcp cs i=k0 at *
  replace hD:=Hid.in hD
  replace hnx:=Hid.in hnx
  (repeat' ((conv=>whnf);first|refine zO ?_|refine Ob.auto ?_|(refine Ob.intro (by (first|first|exact ⟨by omega,by omega⟩|(simp only [zg];omega)|exact ⟨⟨rfl,rfl⟩,zf _,Int.ofNat_lt.2 hil⟩|exact ⟨⟨rfl,rfl⟩,hil⟩)) ?_)|refine zC 300 (hnc) ?_|refine zG 300 (fun hg=>hnc) ?_|(refine CallY.con (hnc) (by rfl) leA ?_)|(refine CallZ.con (fun hg=>hnc) qf (by rfl) ?_)|(refine qg (fun _=>rfl) 300 (hnc) qc (by (repeat' (first|exact trivial|exact Le.refl _|(refine And.intro ?_ ?_))) <;> fail) (by rfl) (by kernel_rfl) ?_)|(refine qi (fun _=>rfl) 300 (fun hg=>hnc) (fun hg=>qc) (fun hg=>(by (repeat' (first|exact trivial|exact Le.refl _|exact Le.cnd hg|(refine And.intro ?_ ?_))) <;> fail)) (by rfl) (by kernel_rfl) ?_)|(apply zB <;> intro hb <;> (try simp [-zd] at hb) <;> try (exfalso;omega))|refine Ob.intro ?_ ?_))
  ((conv=>whnf);refine jm (fun _=>rfl) 300 [1,3,4,0,2,5,6,7,8,9,10] hat (by kernel_rfl) leA (by exact qrk k0) (by exact qn k0) (by exact qn _) (by kernel_rfl) ?_)
  replace hat:=Hid.in hat
  (repeat' ((conv=>whnf);first|refine zO ?_|refine Ob.auto ?_|(refine Ob.intro (by (first|first|exact ⟨by omega,by omega⟩|(simp only [zg];omega)|exact ⟨⟨rfl,rfl⟩,zf _,Int.ofNat_lt.2 hil⟩|exact ⟨⟨rfl,rfl⟩,hil⟩)) ?_)|(apply zB <;> intro hb <;> (try simp [-zd] at hb) <;> try (exfalso;omega))|refine Ob.intro ?_ ?_))
  ((conv=>whnf);refine ⟨i+1,hil,⟨(by (repeat' (first|exact trivial|exact rfl|exact Le.refl _|exact SoLe.refl _|refine And.intro ?_ ?_))),(by (unfold stP stK boxK;repeat' (first|exact trivial|exact rfl|exact Le.refl _|exact SoLe.refl _|exact fun _ _=>LeL.refl _|exact fun _ _ _ _=>LeL.refl _|refine And.intro ?_ ?_)))⟩,⟨qa,qa⟩,?_⟩;(first|omega|(dsimp only;omega)|skip))
 ·obtain rfl:i=cs.length:=by omega
  have hfin:qcp cs cs.length=qau cs:=by unfold qcp qau;rw [xi]
  rw [hfin]
  (repeat' ((conv=>whnf);first|refine zO ?_|refine Ob.auto ?_|(refine Ob.intro (by (first|first|exact ⟨by omega,by omega⟩|(simp only [zg];omega))) ?_)|(apply zB <;> intro hb <;> (try simp [-zd] at hb) <;> try (exfalso;omega))|refine Ob.intro ?_ ?_))
  refine ⟨Le.refl _,?_⟩
  (unfold stP stK boxK;repeat' (first|exact trivial|exact rfl|exact Le.refl _|exact SoLe.refl _|exact fun _ _=>LeL.refl _|exact fun _ _ _ _=>LeL.refl _|refine And.intro ?_ ?_))
end Go.Proofs.Ytkhdldncbmkidaa
end
