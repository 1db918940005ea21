/- The checker and the document's clauses side by side. Plain. -/
import Derived.Test.YtkhdldncbmkidaaY423
import Derived.Test.YtkhdldncbmkidaaY42
set_option linter.unusedSimpArgs false
set_option linter.unusedVariables false
namespace Go.Ru
open List renaming getD_eq_getElem?_getD → zd
open Go.Cl
variable {k k':K} {alive:Nat→Option (List UInt8)} {name:List UInt8} {n p:Nat} {cs nf:List (List Int)} {c:List Int}
theorem qwh:∀ (c:List Int) (n:Int),n≤jf n c∧∀ l∈c,litB l=true→absI l≤jf n c
 | [],n=>⟨Int.le_refl _,fun l h=>absurd h List.not_mem_nil⟩
 | x::c,n=>by
  have ih:=qwh c (if litB x=true∧n<absI x then absI x else n)
  have e:jf n (x::c)=jf (if litB x=true∧n<absI x then absI x else n) c:=rfl
  rw [e]
  have h1:n≤(if litB x=true∧n<absI x then absI x else n):=by split <;> omega
  refine ⟨by omega,fun l hl hb=>?_⟩
  rcases List.mem_cons.1 hl with rfl|hl
  ·have h2:absI l≤(if litB l=true∧n<absI l then absI l else n):=by
    split
    ·omega
    ·rename_i h;have:¬ n<absI l:=fun h'=>h ⟨hb,h'⟩;omega
   omega
  ·exact ih.2 l hl hb
theorem qwi (n:Int) (hn:0≤n∧n≤100000) (c:List Int):0≤jf n c∧jf n c≤100000:=by
 unfold jf
 induction c generalizing n with
 | nil=>exact hn
 | cons l c ih=>
  rw [List.foldl_cons]
  refine ih _ ?_
  split
  ·rename_i h
   have:=(qdd l).1 h.1
   unfold absI at *;omega
  ·exact hn
theorem qqd (c:List Int):0≤qe [c]∧qe [c]≤100000:=qwi 0 ⟨Int.le_refl _,by decide⟩ c
theorem qqe (hr:rightB c=true):∀ l∈c,absI l≤qe [c]:=fun l hl=>(qwh c 0).2 l hl (List.all_eq_true.1 hr l hl)
def K.add (k:K) (c:List Int) (idle:Bool):K:=((k.grow (qe [c]).toNat).note (keyN c) k.lits.length).adds (codesN c) idle
def K.ask (k:K) (c:List Int) (idle:Bool):K × Bool:=if idle then (k,true) else (k.grow (qe [c]).toNat).follows (codesN c)
theorem qqf (hI:Inv k) (a:List (List UInt8 × Nat)) (b:List (List Nat)) (d:Nat→Nat):Inv { k with keys:=a,pm:=b,pe:=d }:=by
 have hS:=(qme hI.s).cong (k':={ k with keys:=a,pm:=b,pe:=d }) rfl rfl rfl rfl rfl rfl rfl
 refine ⟨⟨hS.p,hS.w2,hS.nt,hI.s.us,hI.s.un,hI.s.ua,hI.s.em⟩,fun h1 h2=>?_,fun h1 h2=>hI.x h1 h2⟩
 have hB:=hI.b h1 h2
 exact ⟨hB.j.cong rfl rfl rfl rfl rfl rfl rfl,hB.d.cong rfl rfl rfl,hB.h,hB.u⟩
theorem qwj (k:K) (name:List UInt8) (n:Nat):∃ a b d,k.note name n={ k with keys:=a,pm:=b,pe:=d }:=by
 unfold K.note
 cases seek k name with
 | some p=>exact ⟨_,_,_,rfl⟩
 | none=>exact ⟨_,_,_,rfl⟩
theorem qwk (k:K) (p:Nat):∃ a b d,k.strike p={ k with keys:=a,pm:=b,pe:=d }:=by
 unfold K.strike
 split
 ·exact ⟨_,_,_,rfl⟩
 ·exact ⟨_,_,_,rfl⟩
theorem Led.cong (hL:Led k alive) (h1:k'.keys=k.keys) (h2:k'.pm=k.pm):Led k' alive:=by
 have hN:∀ q,nums k' q=nums k q:=fun q=>by unfold nums;rw [h1,h2]
 exact ⟨by rw [h1];exact hL.kn,by rw [h1];exact hL.ki,fun p hp=>by rw [h1] at hp ⊢;rw [h2];exact hL.kp p hp,fun p hp=>by rw [h1] at hp ⊢;rw [hN];exact hL.kv p hp,fun n s hn=>by
  obtain ⟨p,a,b,c⟩:=hL.kl n s hn
  exact ⟨p,by rw [h1];exact a,by rw [h1];exact b,by rw [hN];exact c⟩⟩
def aliveN (k:K) (nf:List (List Int)):Nat→Option (List UInt8):=fun n=>if n<nf.length∧k.gone.getD n false=false then some (keyN (nf.getD n [])) else none
structure Doc (cs:List (List Int)) (k:K) (nf:List (List Int)):Prop where
 I:Inv k
 F:Fits k nf
 L:Led k (aliveN k nf)
 N:∀ n,n<nf.length→∃ c,rightB c=true∧nf.getD n []=normL c
 C:cs.all rightB=true
 P:(cs.map normL).Perm (live k nf)
theorem jgu (c:List Int):(normL c).Nodup:=(qox c).imp fun {a b} h e=>by subst e;exact qov a h
theorem qqg (c:List Int):(codesN (normL c)).Nodup:=by
 unfold codesN
 exact List.Pairwise.map _ (fun a b h e=>h (qmg a b e)) (jgu c)
theorem qwl (hr:rightB c=true) {v:Nat} (hv:(qe [normL c]).toNat≤v):∀ x∈codesN (normL c),x<2 * v+2:=fun x hx=>by
 obtain ⟨l,hl,rfl⟩:=List.mem_map.1 hx
 have h1:=qqe (qds hr) l hl
 have h2:=qqd (normL c)
 exact qpy (by omega)
theorem qwm (hF:Fits k nf) {v:Nat}:Fits (k.grow v) nf:=by
 have hG:=grown k v
 exact ⟨by rw [hG.li];exact hF.ln,fun n hn=>by unfold lit;rw [hG.li];exact hF.li n hn,hF.ri⟩
theorem qha {l:List (List Int)} {x:List Int} (m:Nat):(l++[x]).getD m []=if m=l.length then x else l.getD m []:=by
 rw [zd,zd]
 by_cases h:m=l.length
 ·subst h
  rw [za rfl,zm (zi _),zag];rfl
 ·rw [ze h]
  by_cases h2:m<l.length
  ·rw [zo h2]
  ·rw [zw (by simp;omega),zw (l:=l) (by omega)]
theorem qqh (hD:Doc cs k nf) (hr:rightB c=true) (hl:k.lits.length<100000) (hc:c.length≤100000) :
  Doc (cs++[c]) (k.add (normL c) (qu (normL c))) (nf++[normL c])∧(k.add (normL c) (qu (normL c))).lits.length=k.lits.length+1:=by
 have hg:=qqd (normL c)
 have hI1:=qgy hD.I (v:=(qe [normL c]).toNat) (by omega)
 have hG:=grown k (qe [normL c]).toNat
 have hroom:=qmc hD.I (qe [normL c]).toNat
 have hF1:=qwm (v:=(qe [normL c]).toNat) hD.F
 have hnl:k.lits.length=nf.length:=hD.F.ln.symm
 have hgl:k.gone.length=k.lits.length:=hD.I.s.p.c.g
 have hL1:Led (k.grow (qe [normL c]).toNat) (aliveN k nf):=hD.L.cong hG.ks hG.pm
 have hL2:=jgq (name:=keyN (normL c)) (n:=k.lits.length) hL1 (by unfold aliveN;rw [ze (by omega)])
 unfold K.add
 obtain ⟨a,b,d,he⟩:=qwj (k.grow (qe [normL c]).toNat) (keyN (normL c)) k.lits.length
 have hI2:=qqf hI1 a b d
 rw [← he] at hI2
 have hlits:((k.grow (qe [normL c]).toNat).note (keyN (normL c)) k.lits.length).lits=k.lits:=by rw [he];exact hG.li
 have hgone:((k.grow (qe [normL c]).toNat).note (keyN (normL c)) k.lits.length).gone=k.gone:=by rw [he];exact hG.go
 have hval:((k.grow (qe [normL c]).toNat).note (keyN (normL c)) k.lits.length).val=(k.grow (qe [normL c]).toNat).val:=by rw [he]
 generalize (k.grow (qe [normL c]).toNat).note (keyN (normL c)) k.lits.length=k2 at hI2 hL2 hlits hgone hval ⊢
 have hFit:Fit k2 (codesN (normL c)):=⟨fun x hx=>by rw [hval];have:=qwl hr (zi _) x hx;omega,qqg c,by unfold codesN;rw [xp];exact zt (qfm c) hc,by rw [hlits];exact hl⟩
 obtain ⟨hI3,hA⟩:=jgh hI2 hFit (idle:=qu (normL c)) ((qlb (qdg hr)).trans (qpz (qdg hr)))
 generalize k2.adds (codesN (normL c)) (qu (normL c))=k3 at hI3 hA ⊢
 have hlen:k3.lits.length=k.lits.length+1:=by rw [hA.ll,hlits]
 have hgo:∀ m,k3.gone.getD m false=k.gone.getD m false:=fun m=>by rw [hA.go,hgone]
 have hgn:k3.gone.getD nf.length false=false:=by rw [hgo,zd,zw (by omega)];rfl
 have hll:k2.lits.length=nf.length:=by rw [hlits,hnl]
 have hlit2:∀ m,lit k2 m=lit k m:=fun m=>by unfold lit;rw [hlits]
 refine ⟨⟨hI3,⟨by rw [zj,zai,hlen];omega,fun m hm=>?_,fun m hm=>?_⟩,?_,fun m hm=>?_,?_,?_⟩,hlen⟩
 ·rw [qha]
  split
  ·rename_i e
   subst e
   rw [← hll]
   exact hA.ln
  ·rename_i e
   rw [zj,zai] at hm
   refine (hA.lo m (by omega)).trans ?_
   rw [hlit2]
   exact hD.F.li m (by omega)
 ·rw [qha]
  split
  ·exact qds hr
  ·rename_i e
   rw [zj,zai] at hm
   exact hD.F.ri m (by omega)
 ·have:(fun m=>if m=k.lits.length then some (keyN (normL c)) else aliveN k nf m)=aliveN k3 (nf++[normL c]):=by
   funext m
   unfold aliveN
   rw [qha,hgo,zj,zai,hnl]
   by_cases e:m=nf.length
   ·subst e
    rw [za rfl,za rfl,za ⟨by omega,by rw [← hgo];exact hgn⟩]
   ·rw [ze e,ze e]
    by_cases h2:m<nf.length
    ·have h3:m<nf.length+1:=by omega
     simp only [h2,h3]
    ·have h3:¬ m<nf.length+1:=by omega
     simp only [h2,h3]
  rw [← this]
  exact hL2.cong hA.ks hA.pm
 ·rw [qha]
  split
  ·exact ⟨c,hr,rfl⟩
  ·rename_i e
   rw [zj,zai] at hm
   exact hD.N m (by omega)
 ·rw [List.all_append,hD.C,zbm,hr];rfl
 ·have:live k3 (nf++[normL c])=live k nf++[normL c]:=by
   unfold live
   rw [zj,zai,List.range_succ,List.filter_append,zbk]
   congr 1
   ·have:(List.range nf.length).filter (fun n=>!(k3.gone.getD n false))=(List.range nf.length).filter fun n=>!(k.gone.getD n false):=List.filter_congr fun m _=>by rw [hgo]
    rw [this]
    refine xh fun m hm=>?_
    have:=List.mem_range.1 (List.mem_filter.1 hm).1
    rw [qha,ze (by omega)]
   ·rw [List.filter_cons_of_pos (by rw [hgn];rfl),List.filter_nil,xr,zbl,qha,za rfl]
  rw [this,zbk]
  exact hD.P.append (.refl _)
theorem qmh (hD:Doc cs k nf) (hr:rightB c=true) :
  Doc cs (k.ask (normL c) (qu (normL c))).1 nf∧(k.ask (normL c) (qu (normL c))).2=qak cs c∧(k.ask (normL c) (qu (normL c))).1.lits.length=k.lits.length:=by
 have hfr:qak cs c=qiz cs (negs c):=by unfold qak;rw [hD.C,hr];rfl
 unfold K.ask
 by_cases hi:qu (normL c)=true
 ·rw [za hi]
  refine ⟨hD,?_,rfl⟩
  rw [hfr]
  exact (confR_iff.2 (jgo ((qlb (qdg hr)).1 hi))).symm
 ·rw [ze hi]
  have hg:=qqd (normL c)
  have hI1:=qgy hD.I (v:=(qe [normL c]).toNat) (by omega)
  have hG:=grown k (qe [normL c]).toNat
  have hroom:=qmc hD.I (qe [normL c]).toNat
  have hF1:=qwm (v:=(qe [normL c]).toNat) hD.F
  have hlive:live (k.grow (qe [normL c]).toNat) nf=live k nf:=by unfold live;rw [hG.go]
  have hbad:=jgn hF1 hD.C hr (by rw [hlive];exact hD.P)
  obtain ⟨hK,hI2,hf⟩:=jfy hI1 (c:=codesN (normL c)) (fun x hx=>by have:=qwl hr (zi _) x hx;omega)
  have hL1:Led (k.grow (qe [normL c]).toNat) (aliveN k nf):=hD.L.cong hG.ks hG.pm
  generalize k.grow (qe [normL c]).toNat=k1 at hI1 hG hF1 hlive hbad hK hI2 hf hL1 ⊢
  refine ⟨⟨hI2,⟨by rw [hK.ll];exact hF1.ln,fun n hn=>(hK.li n).trans (hF1.li n hn),hF1.ri⟩,?_,hD.N,hD.C,?_⟩,?_,by rw [hK.ll,hG.li]⟩
  ·have:aliveN (k1.follows (codesN (normL c))).1 nf=aliveN k nf:=by unfold aliveN;rw [hK.go,hG.go]
   rw [this]
   exact hL1.cong hK.ks hK.pm
  ·have:live (k1.follows (codesN (normL c))).1 nf=live k nf:=by rw [← hlive];unfold live;rw [hK.go]
   rw [this]
   exact hD.P
  ·rw [hfr]
   have h2:=hf.trans (hbad.trans confR_iff.symm)
   cases h3:(k1.follows (codesN (normL c))).2 with
   | true=>exact (h2.1 h3).symm
   | false=>
    cases h4:qiz cs (negs c) with
    | true=>rw [h2.2 h4] at h3;cases h3
    | false=>rfl
end Go.Ru
