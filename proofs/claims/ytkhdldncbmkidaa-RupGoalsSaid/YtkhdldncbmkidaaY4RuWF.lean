/- Contracts: a checker is made. -/
import Derived.Test.YtkhdldncbmkidaaY4RuWE
import Derived.Test.YtkhdldncbmkidaaY4RuF
import Derived.Test.YtkhdldncbmkidaaY4Cn3
import Derived.Test.YtkhdldncbmkidaaY42
set_option linter.unusedSimpArgs false
set_option linter.unusedVariables false
namespace Go.Proofs.Ytkhdldncbmkidaa
open List renaming getD_eq_getElem?_getD → zd
open Go Go.Sx Go.RowKit Go.Ru Go.Cl
set_option maxRecDepth 100000
set_option maxHeartbeats 8000000
def stP (k:K):List (Nat × SO):=qm (names [1,3,4,0,2,5,6,7,8,9,10] 11) (idx 0 (stK k))
theorem qqs (k:K):NamedL (stP k) (names [1,3,4,0,2,5,6,7,8,9,10] 11) [1,3,4,0,2,5,6,7,8,9,10] (stK k):=by
 unfold stP stK boxK
 repeat' (first|exact trivial|exact rfl|exact Le.refl _|exact SoLe.refl _|exact fun _ _=>LeL.refl _|exact fun _ _ _ _=>LeL.refl _|refine And.intro ?_ ?_)
theorem jiv:MT [(1,.box 59 [.nils,.mapv 0,.nils,.nils,.nils,.nils,iv 0,.nils,iv 0,.bool false,.bool true]),(0,.box mapTy [.keys []])] (stP K.init) 2 11:=by
 refine (jev (b:=0) 3 1 (by rfl)).trans ?_
 refine (qgt 1 0 68 2 (by rfl) (by rfl)).trans ?_
 refine (qup 3 3 1 (by rfl)).trans ?_
 refine (qgt 1 2 23 1 (by rfl) (by rfl)).trans ?_
 refine (qup 5 3 1 (by rfl)).trans ?_
 refine (qgt 1 3 62 1 (by rfl) (by rfl)).trans ?_
 refine (qgt 1 4 3 1 (by rfl) (by rfl)).trans ?_
 refine (qgt 1 5 3 1 (by rfl) (by rfl)).trans ?_
 refine (qgt 1 7 3 1 (by rfl) (by rfl)).trans ?_
 refine MT.weak fun i x hx=>SubSt.get ?_ i x hx
 unfold stP stK boxK
 repeat' (first|exact trivial|exact rfl|exact Le.refl _|exact SoLe.refl _|exact fun i hi=>absurd hi (zu _)|exact fun i j hi=>absurd hi (zu _)|exact fun _ _=>LeL.refl _|exact fun _ _ _ _=>LeL.refl _|refine And.intro ?_ ?_)
theorem qxh {cs nf:List (List Int)} {k:K} (hD:Doc cs k nf):∀ p,p<k.keys.length→(nums k p).length≤100000:=fun p hp=>by
 obtain ⟨_,h2,h3⟩:=hD.L.kv p hp
 refine zt (qfo h2 fun n hn=>?_) hD.I.s.p.c.n
 have:=h3 n hn
 unfold aliveN at this
 split at this
 ·rename_i h;rw [← hD.F.ln];exact h.1
 ·cases this
theorem jiw:Sz K.init:=⟨rfl,rfl,xa _,xa _⟩
def qce (cs:List (List Int)) (i:Nat):K:=(K.init.grow (qe cs).toNat).fill (cs.take i)
theorem jix {cs:List (List Int)} {i:Nat} (hi:i<cs.length):qce cs (i+1)=(qce cs i).add (normL (cs.getD i [])) (qu (normL (cs.getD i []))):=by
 unfold qce K.fill
 rw [zat,zb hi,List.foldl_append,zd,zb hi];rfl
theorem jiy {cs:List (List Int)} (hr:cs.all rightB=true) (hl:cs.length≤100000) (hc:∀ c∈cs,c.length≤100000) (i:Nat) (hi:i≤cs.length):∃ nf,Doc (cs.take i) (qce cs i) nf∧(qce cs i).lits.length=i:=by
 have hg:=grL9 cs
 have hG:=grown K.init (qe cs).toNat
 have h0:Doc [] (K.init.grow (qe cs).toNat) []:=by
  refine ⟨qgy qwp (by omega),⟨by rw [hG.li];rfl,fun n hn=>absurd hn (zu _),fun n hn=>absurd hn (zu _)⟩,?_,fun n hn=>absurd hn (zu _),rfl,.refl _⟩
  have hk:(K.init.grow (qe cs).toNat).keys=[]:=hG.ks
  exact ⟨by rw [hk];exact zbc,by rw [hk];exact zbc,fun p hp=>by rw [hk] at hp;exact absurd hp (zu _),fun p hp=>by rw [hk] at hp;exact absurd hp (zu _),fun n s hn=>by
   unfold aliveN at hn
   rw [ze (fun h=>zu _ h.1)] at hn
   cases hn⟩
 have hz:(K.init.grow (qe cs).toNat).lits.length=0:=congrArg List.length hG.li
 have hti:(cs.take i).length=i:=by rw [zr];omega
 obtain ⟨nf,h1,h2⟩:=qqk (cs.take i) [] _ [] h0 (List.all_eq_true.2 fun c hm=>List.all_eq_true.1 hr c (zac hm)) (by rw [hz,hti];omega) (fun c hm=>hc c (zac hm))
 exact ⟨nf,h1,by unfold qce;rw [h2,hz,hti];omega⟩
theorem qxi (cs:List (List Int)) (hr:cs.all rightB=true) (hl:cs.length≤100000) (hc:∀ c∈cs,c.length≤100000) :
  Trip Try.prog 21 [qbh cs] [] (.ptr 1 0) (stP (qal cs)) 11:=by
 have hg:=grL9 cs
 have hgc:=qwv cs (by omega) (fun c h=>zt (hc c h) (by decide))
 have hgt:=qws K.init jiw (qe cs).toNat (by omega)
 have hgn:qe cs=(((qe cs).toNat:Nat):Int):=by omega
 refine zL {} 300 Try.func21 (fun c0 rdb mpb=>?_)
 (repeat' ((conv=>whnf);first|refine zO ?_|refine Ob.auto ?_|(refine Ob.intro (by (first|exact ⟨by omega,by omega⟩)) ?_)|refine zC 300 (hgc) ?_|refine zG 300 (fun hg=>hgc) ?_|(refine CallY.con (hgc) (by rfl) leA ?_)|(refine CallZ.con (fun hg=>hgc) qp (by rfl) ?_)|(refine qv (fun _=>rfl) 300 (hgc) qd (by (repeat' (first|exact trivial|exact Le.refl _|(refine And.intro ?_ ?_))) <;> fail) (by rfl) (by kernel_rfl) ?_)|(refine qw (fun _=>rfl) 300 (fun hg=>hgc) (fun hg=>qd) (fun hg=>(by (repeat' (first|exact trivial|exact Le.refl _|exact Le.cnd hg|(refine And.intro ?_ ?_))) <;> fail)) (by rfl) (by kernel_rfl) ?_)|(apply zB <;> intro hb <;> (try simp [-zd] at hb) <;> try (exfalso;omega))|refine Ob.intro ?_ ?_))
 refine MT.call jiv ?_
 ((conv=>whnf);refine ji (fun _=>rfl) 300 [1,3,4,0,2,5,6,7,8,9,10] hgt (by kernel_rfl) ⟨Le.refl _,Le.of_eq (congrArg (AV.int _) hgn),trivial⟩ (by exact qqs K.init) (by exact qj K.init) (by exact qj _) (by kernel_rfl) ?_)
 have h0:K.init.grow (qe cs).toNat=qce cs 0:=rfl
 rw [h0]
 replace hgt:=Hid.in hgt
 replace hgn:=Hid.in hgn
 replace hgc:=Hid.in hgc
 (repeat' ((conv=>whnf);first|refine zO ?_|refine Ob.auto ?_|(refine Ob.intro (by (first|exact ⟨by omega,by omega⟩)) ?_)|(apply zB <;> intro hb <;> (try simp [-zd] at hb) <;> try (exfalso;omega))|refine Ob.intro ?_ ?_))
 ((conv=>whnf);refine jk (fun _=>rfl) 300 1 (fun i:Nat=>[(15,iv i)]) (fun i=>stP (qce cs i)) (fun i=>i≤cs.length) (fun i=>cs.length - i) (0) (xa _) qa (by (unfold stP stK boxK;repeat' (first|exact trivial|exact rfl|exact Le.refl _|exact SoLe.refl _|exact fun _ _=>LeL.refl _|exact fun _ _ _ _=>LeL.refl _|refine And.intro ?_ ?_))) (fun _=>rfl) (by kernel_rfl) ?_;(conv=>whnf))
 intro i hi
 by_cases hil:i<cs.length
 ·obtain ⟨nf,hD,hli⟩:=jiy hr hl hc i hi
  have hnx:=jix hil
  have hci:rightB (cs.getD i [])=true:=List.all_eq_true.1 hr _ (qg hil)
  have hcl:=hc _ (qg (d:=[]) hil)
  have hnc:=qmq (cs.getD i []) (by omega)
  rw [hci] at hnc
  simp only [cond_true,zbi] at hnc
  have hat:=qxb (qce cs i) hD.I hD.L (qxh hD) (normL (cs.getD i [])) (qds hci) (zt (qfm _) hcl) (by omega) (qu (normL (cs.getD i []))) ((qlb (qdg hci)).trans (qpz (qdg hci))) (qqg _)
  rw [← hnx] at hat
  generalize qce cs i=k0 at *
  replace hD:=Hid.in hD
  replace hnx:=Hid.in hnx
  (repeat' ((conv=>whnf);first|refine zO ?_|refine Ob.auto ?_|(refine Ob.intro (by (first|first|exact ⟨by omega,by omega⟩|(simp only [zf];omega)|exact ⟨⟨rfl,rfl⟩,zg _,Int.ofNat_lt.2 hil⟩|exact ⟨⟨rfl,rfl⟩,hil⟩)) ?_)|refine zC 300 (hnc) ?_|refine zG 300 (fun hg=>hnc) ?_|(refine CallY.con (hnc) (by rfl) leA ?_)|(refine CallZ.con (fun hg=>hnc) qp (by rfl) ?_)|(refine qv (fun _=>rfl) 300 (hnc) qd (by (repeat' (first|exact trivial|exact Le.refl _|(refine And.intro ?_ ?_))) <;> fail) (by rfl) (by kernel_rfl) ?_)|(refine qw (fun _=>rfl) 300 (fun hg=>hnc) (fun hg=>qd) (fun hg=>(by (repeat' (first|exact trivial|exact Le.refl _|exact Le.cnd hg|(refine And.intro ?_ ?_))) <;> fail)) (by rfl) (by kernel_rfl) ?_)|(apply zB <;> intro hb <;> (try simp [-zd] at hb) <;> try (exfalso;omega))|refine Ob.intro ?_ ?_))
  ((conv=>whnf);refine ji (fun _=>rfl) 300 [1,3,4,0,2,5,6,7,8,9,10] hat (by kernel_rfl) leA (by exact qqs k0) (by exact qj k0) (by exact qj _) (by kernel_rfl) ?_)
  replace hat:=Hid.in hat
  (repeat' ((conv=>whnf);first|refine zO ?_|refine Ob.auto ?_|(refine Ob.intro (by (first|first|exact ⟨by omega,by omega⟩|(simp only [zf];omega)|exact ⟨⟨rfl,rfl⟩,zg _,Int.ofNat_lt.2 hil⟩|exact ⟨⟨rfl,rfl⟩,hil⟩)) ?_)|(apply zB <;> intro hb <;> (try simp [-zd] at hb) <;> try (exfalso;omega))|refine Ob.intro ?_ ?_))
  ((conv=>whnf);refine ⟨i+1,hil,⟨(by (repeat' (first|exact trivial|exact rfl|exact Le.refl _|exact SoLe.refl _|refine And.intro ?_ ?_))),(by (unfold stP stK boxK;repeat' (first|exact trivial|exact rfl|exact Le.refl _|exact SoLe.refl _|exact fun _ _=>LeL.refl _|exact fun _ _ _ _=>LeL.refl _|refine And.intro ?_ ?_)))⟩,⟨qa,qa⟩,?_⟩;(first|omega|(dsimp only;omega)|skip))
 ·obtain rfl:i=cs.length:=by omega
  have hfin:qce cs cs.length=qal cs:=by unfold qce qal;rw [xi]
  rw [hfin]
  (repeat' ((conv=>whnf);first|refine zO ?_|refine Ob.auto ?_|(refine Ob.intro (by (first|first|exact ⟨by omega,by omega⟩|(simp only [zf];omega))) ?_)|(apply zB <;> intro hb <;> (try simp [-zd] at hb) <;> try (exfalso;omega))|refine Ob.intro ?_ ?_))
  refine ⟨Le.refl _,?_⟩
  (unfold stP stK boxK;repeat' (first|exact trivial|exact rfl|exact Le.refl _|exact SoLe.refl _|exact fun _ _=>LeL.refl _|exact fun _ _ _ _=>LeL.refl _|refine And.intro ?_ ?_))
end Go.Proofs.Ytkhdldncbmkidaa
