/- Some texts of the library, one behind the other. -/
import Derived.Test.YtkhdldncbmkidaaY320
import Derived.Test.YtkhdldncbmkidaaY32
set_option linter.unusedSimpArgs false
set_option linter.unusedVariables false
section
namespace Go.Ru
open List renaming getD_eq_getElem?_getD → zd
open Go.Cl
variable {k:K} {alive:Nat→Option (List UInt8)} {name:List UInt8} {n p:Nat}
theorem qqu {α:Type} {l:List α} {p q:Nat} {d:α}:(l.eraseIdx p).getD q d=l.getD (if q<p then q else q+1) d:=by
 rw [zd,zd,List.getElem?_eraseIdx]
 split <;> rfl
theorem jid {l:List Nat} (h:l≠[]):l=l.dropLast++[l.getD (l.length - 1) 0]:=by
 have:=List.dropLast_concat_getLast h
 rw [List.getLast_eq_getElem] at this
 rw [zd,zb (by have:=List.length_pos_iff.2 h;omega)]
 exact this.symm
theorem jie (hL:Led k alive) (hp:p<k.keys.length) (hn:n=(nums k p).getD ((nums k p).length - 1) 0):Led (k.strike p) (fun m=>if m=n then none else alive m)∧n∈nums k p:=by
 obtain ⟨h1,h2,h3⟩:=hL.kv p hp
 have hsp:=jid h1
 rw [← hn] at hsp
 have hnm:n∈nums k p:=by rw [hsp];simp
 have hnd:n ∉ (nums k p).dropLast:=fun hm=>by
  rw [hsp,zap] at h2
  exact h2.2.2 n hm n (List.mem_singleton_self _) rfl
 have hoth:∀ q,q<k.keys.length→q≠p→n ∉ nums k q:=fun q hq hne hm=>by
  have a:=h3 n hnm
  have c:=(hL.kv q hq).2.2 n hm
  rw [a] at c
  exact hne (hL.one hp hq (Option.some.inj c)).symm
 refine ⟨?_,hnm⟩
 unfold K.strike
 split
 ·rename_i hl1
  have hone:nums k p=[n]:=by
   rw [hsp,zi,zae] at hl1
   rw [hsp,xb (l:=(nums k p).dropLast) (by omega)];rfl
  have hlen:(k.keys.eraseIdx p).length=k.keys.length - 1:=by rw [List.length_eraseIdx,za hp]
  have hN:∀ q,nums { k with keys:=k.keys.eraseIdx p } q=nums k (if q<p then q else q+1):=fun q=>by
   show k.pm.getD ((k.keys.eraseIdx p).getD q ([],0)).2 []=_
   rw [qqu];rfl
  have hK:∀ q,(k.keys.eraseIdx p).getD q ([],0)=k.keys.getD (if q<p then q else q+1) ([],0):=fun q=>qqu
  have hi:∀ q,q<k.keys.length - 1→(if q<p then q else q+1)<k.keys.length∧(if q<p then q else q+1)≠p:=fun q hq=>by split <;> omega
  refine ⟨?_,?_,fun q hq=>?_,fun q hq=>?_,fun m s hm=>?_⟩
  ·show ((k.keys.eraseIdx p).map (·.1)).Nodup
   exact hL.kn.sublist ((List.eraseIdx_sublist ..).map _)
  ·show ((k.keys.eraseIdx p).map (·.2)).Nodup
   exact hL.ki.sublist ((List.eraseIdx_sublist ..).map _)
  ·have hq:q<(k.keys.eraseIdx p).length:=hq
   rw [hlen] at hq
   show ((k.keys.eraseIdx p).getD q ([],0)).2<k.pm.length
   rw [hK]
   exact hL.kp _ (hi q hq).1
  ·have hq:q<(k.keys.eraseIdx p).length:=hq
   rw [hlen] at hq
   rw [hN]
   show _∧_∧∀ m∈_,_=some ((k.keys.eraseIdx p).getD q ([],0)).1
   rw [hK]
   obtain ⟨a,b,c⟩:=hL.kv _ (hi q hq).1
   refine ⟨a,b,fun m hm=>?_⟩
   have hne:m≠n:=fun e=>by subst e;exact hoth _ (hi q hq).1 (hi q hq).2 hm
   rw [ze hne]
   exact c m hm
  ·by_cases e:m=n
   ·rw [za e] at hm;cases hm
   ·rw [ze e] at hm
    obtain ⟨q,a,b,c⟩:=hL.kl m s hm
    have hqp:q≠p:=fun e'=>by
     subst e'
     rw [hone,zk] at c
     exact e c
    have hq':(if (if q<p then q else q - 1)<p then (if q<p then q else q - 1) else (if q<p then q else q - 1)+1)=q:=by
     by_cases h:q<p
     ·rw [za h,za h]
     ·rw [ze h,ze (by omega)];omega
    refine ⟨if q<p then q else q - 1,?_,?_,?_⟩
    ·show _<(k.keys.eraseIdx p).length
     rw [hlen];split <;> omega
    ·show ((k.keys.eraseIdx p).getD _ ([],0)).1=s
     rw [hK,hq'];exact b
    ·rw [hN,hq'];exact c
 ·rename_i hl1
  have hi:=hL.kp p hp
  have hN:∀ q,q<k.keys.length→nums { k with pm:=k.pm.set (k.keys.getD p ([],0)).2 (nums k p).dropLast,pe:=bump k.pe (k.keys.getD p ([],0)).2 } q=if q=p then (nums k p).dropLast else nums k q:=fun q hq=>by
   show (k.pm.set _ _).getD (k.keys.getD q ([],0)).2 []=_
   rw [jc]
   by_cases e:q=p
   ·subst e;rw [za ⟨rfl,hi⟩,za rfl]
   ·rw [ze (fun h=>e (hL.two hq hp h.1)),ze e];rfl
  have hdl:(nums k p).dropLast≠[]:=fun e=>hl1 (by rw [hsp,e];rfl)
  refine ⟨hL.kn,hL.ki,fun q hq=>?_,fun q hq=>?_,fun m s hm=>?_⟩
  ·show (k.keys.getD q ([],0)).2<(k.pm.set _ _).length
   rw [xd];exact hL.kp q hq
  ·have hq:q<k.keys.length:=hq
   rw [hN q hq]
   show _∧_∧∀ m∈_,_=some (k.keys.getD q ([],0)).1
   obtain ⟨a,b,c⟩:=hL.kv q hq
   split
   ·rename_i e
    subst e
    refine ⟨hdl,b.sublist (List.dropLast_sublist _),fun m hm=>?_⟩
    have hne:m≠n:=fun e=>by subst e;exact hnd hm
    rw [ze hne]
    exact c m (List.dropLast_subset _ hm)
   ·rename_i e
    refine ⟨a,b,fun m hm=>?_⟩
    have hne:m≠n:=fun e'=>by subst e';exact hoth q hq e hm
    rw [ze hne]
    exact c m hm
  ·by_cases e:m=n
   ·rw [za e] at hm;cases hm
   ·rw [ze e] at hm
    obtain ⟨q,a,b,c⟩:=hL.kl m s hm
    refine ⟨q,a,b,?_⟩
    rw [hN q a]
    split
    ·rename_i e'
     subst e'
     rw [hsp] at c
     rcases List.mem_append.1 c with h|h
     ·exact h
     ·rw [zk] at h;exact absurd h e
    ·exact c
theorem jif (hL:Led k alive):seek k name=none↔∀ n,alive n≠some name:=by
 constructor
 ·intro h n hn
  obtain ⟨p,h1,h2,_⟩:=hL.kl n name hn
  exact qqt h p h1 h2
 ·intro h
  cases hs:seek k name with
  | none=>rfl
  | some p=>
   obtain ⟨h1,h2⟩:=qfc hs
   obtain ⟨a,_,c⟩:=hL.kv p h1
   obtain ⟨m,hm⟩:=List.exists_mem_of_ne_nil _ a
   exact absurd (h2 ▸ c m hm) (h m)
end Go.Ru
end
section
namespace Go.Ru
open List renaming getD_eq_getElem?_getD → zd
open Go.Cl
variable {k k':K} {alive:Nat→Option (List UInt8)} {name:List UInt8} {n p:Nat} {cs nf:List (List Int)} {c:List Int}
theorem qxd:∀ (c:List Int) (n:Int),n≤jh n c∧∀ l∈c,litB l=true→absI l≤jh n c
 | [],n=>⟨Int.le_refl _,fun l h=>absurd h List.not_mem_nil⟩
 | x::c,n=>by
  have ih:=qxd c (if litB x=true∧n<absI x then absI x else n)
  have e:jh n (x::c)=jh (if litB x=true∧n<absI x then absI x else n) c:=rfl
  rw [e]
  have h1:n≤(if litB x=true∧n<absI x then absI x else n):=by split <;> omega
  refine ⟨by omega,fun l hl hb=>?_⟩
  rcases List.mem_cons.1 hl with rfl|hl
  ·have h2:absI l≤(if litB l=true∧n<absI l then absI l else n):=by
    split
    ·omega
    ·rename_i h;have:¬ n<absI l:=fun h'=>h ⟨hb,h'⟩;omega
   omega
  ·exact ih.2 l hl hb
theorem qxe (n:Int) (hn:0≤n∧n≤100000) (c:List Int):0≤jh n c∧jh n c≤100000:=by
 unfold jh
 induction c generalizing n with
 | nil=>exact hn
 | cons l c ih=>
  rw [List.foldl_cons]
  refine ih _ ?_
  split
  ·rename_i h
   have:=(jy l).1 h.1
   unfold absI at *;omega
  ·exact hn
theorem qqv (c:List Int):0≤qe [c]∧qe [c]≤100000:=qxe 0 ⟨Int.le_refl _,by decide⟩ c
theorem qqw (hr:rightB c=true):∀ l∈c,absI l≤qe [c]:=fun l hl=>(qxd c 0).2 l hl (List.all_eq_true.1 hr l hl)
def K.add (k:K) (c:List Int) (idle:Bool):K:=((k.grow (qe [c]).toNat).note (keyN c) k.lits.length).adds (codesN c) idle
def K.ask (k:K) (c:List Int) (idle:Bool):K × Bool:=if idle then (k,true) else (k.grow (qe [c]).toNat).follows (codesN c)
theorem qqx (hI:Inv k) (a:List (List UInt8 × Nat)) (b:List (List Nat)) (d:Nat→Nat):Inv { k with keys:=a,pm:=b,pe:=d }:=by
 have hS:=(qmw hI.s).cong (k':={ k with keys:=a,pm:=b,pe:=d }) rfl rfl rfl rfl rfl rfl rfl
 refine ⟨⟨hS.p,hS.w2,hS.nt,hI.s.us,hI.s.un,hI.s.ua,hI.s.em⟩,fun h1 h2=>?_,fun h1 h2=>hI.x h1 h2⟩
 have hB:=hI.b h1 h2
 exact ⟨hB.j.cong rfl rfl rfl rfl rfl rfl rfl,hB.d.cong rfl rfl rfl,hB.h,hB.u⟩
theorem qxf (k:K) (name:List UInt8) (n:Nat):∃ a b d,k.note name n={ k with keys:=a,pm:=b,pe:=d }:=by
 unfold K.note
 cases seek k name with
 | some p=>exact ⟨_,_,_,rfl⟩
 | none=>exact ⟨_,_,_,rfl⟩
theorem qxg (k:K) (p:Nat):∃ a b d,k.strike p={ k with keys:=a,pm:=b,pe:=d }:=by
 unfold K.strike
 split
 ·exact ⟨_,_,_,rfl⟩
 ·exact ⟨_,_,_,rfl⟩
theorem Led.cong (hL:Led k alive) (h1:k'.keys=k.keys) (h2:k'.pm=k.pm):Led k' alive:=by
 have hN:∀ q,nums k' q=nums k q:=fun q=>by unfold nums;rw [h1,h2]
 exact ⟨by rw [h1];exact hL.kn,by rw [h1];exact hL.ki,fun p hp=>by rw [h1] at hp ⊢;rw [h2];exact hL.kp p hp,fun p hp=>by rw [h1] at hp ⊢;rw [hN];exact hL.kv p hp,fun n s hn=>by
  obtain ⟨p,a,b,c⟩:=hL.kl n s hn
  exact ⟨p,by rw [h1];exact a,by rw [h1];exact b,by rw [hN];exact c⟩⟩
def aliveN (k:K) (nf:List (List Int)):Nat→Option (List UInt8):=fun n=>if n<nf.length∧k.gone.getD n false=false then some (keyN (nf.getD n [])) else none
structure Doc (cs:List (List Int)) (k:K) (nf:List (List Int)):Prop where
 I:Inv k
 F:Fits k nf
 L:Led k (aliveN k nf)
 N:∀ n,n<nf.length→∃ c,rightB c=true∧nf.getD n []=normL c
 C:cs.all rightB=true
 P:(cs.map normL).Perm (live k nf)
theorem jig (c:List Int):(normL c).Nodup:=(qlt c).imp fun {a b} h e=>by subst e;exact qhd a h
theorem qqy (c:List Int):(codesN (normL c)).Nodup:=by
 unfold codesN
 exact List.Pairwise.map _ (fun a b h e=>h (qmz a b e)) (jig c)
theorem qxh (hr:rightB c=true) {v:Nat} (hv:(qe [normL c]).toNat≤v):∀ x∈codesN (normL c),x<2 * v+2:=fun x hx=>by
 obtain ⟨l,hl,rfl⟩:=List.mem_map.1 hx
 have h1:=qqw (qec hr) l hl
 have h2:=qqv (normL c)
 exact qqp (by omega)
theorem qxi (hF:Fits k nf) {v:Nat}:Fits (k.grow v) nf:=by
 have hG:=grown k v
 exact ⟨by rw [hG.li];exact hF.ln,fun n hn=>by unfold lit;rw [hG.li];exact hF.li n hn,hF.ri⟩
theorem qhl {l:List (List Int)} {x:List Int} (m:Nat):(l++[x]).getD m []=if m=l.length then x else l.getD m []:=by
 rw [zd,zd]
 by_cases h:m=l.length
 ·subst h
  rw [za rfl,zl (zj _),zad];rfl
 ·rw [ze h]
  by_cases h2:m<l.length
  ·rw [zn h2]
  ·rw [zy (by simp;omega),zy (l:=l) (by omega)]
theorem qqz (hD:Doc cs k nf) (hr:rightB c=true) (hl:k.lits.length<100000) (hc:c.length≤100000) :
  Doc (cs++[c]) (k.add (normL c) (qr (normL c))) (nf++[normL c])∧(k.add (normL c) (qr (normL c))).lits.length=k.lits.length+1:=by
 have hg:=qqv (normL c)
 have hI1:=qhk hD.I (v:=(qe [normL c]).toNat) (by omega)
 have hG:=grown k (qe [normL c]).toNat
 have hroom:=qmu hD.I (qe [normL c]).toNat
 have hF1:=qxi (v:=(qe [normL c]).toNat) hD.F
 have hnl:k.lits.length=nf.length:=hD.F.ln.symm
 have hgl:k.gone.length=k.lits.length:=hD.I.s.p.c.g
 have hL1:Led (k.grow (qe [normL c]).toNat) (aliveN k nf):=hD.L.cong hG.ks hG.pm
 have hL2:=jic (name:=keyN (normL c)) (n:=k.lits.length) hL1 (by unfold aliveN;rw [ze (by omega)])
 unfold K.add
 obtain ⟨a,b,d,he⟩:=qxf (k.grow (qe [normL c]).toNat) (keyN (normL c)) k.lits.length
 have hI2:=qqx hI1 a b d
 rw [← he] at hI2
 have hlits:((k.grow (qe [normL c]).toNat).note (keyN (normL c)) k.lits.length).lits=k.lits:=by rw [he];exact hG.li
 have hgone:((k.grow (qe [normL c]).toNat).note (keyN (normL c)) k.lits.length).gone=k.gone:=by rw [he];exact hG.go
 have hval:((k.grow (qe [normL c]).toNat).note (keyN (normL c)) k.lits.length).val=(k.grow (qe [normL c]).toNat).val:=by rw [he]
 generalize (k.grow (qe [normL c]).toNat).note (keyN (normL c)) k.lits.length=k2 at hI2 hL2 hlits hgone hval ⊢
 have hFit:Fit k2 (codesN (normL c)):=⟨fun x hx=>by rw [hval];have:=qxh hr (zj _) x hx;omega,qqy c,by unfold codesN;rw [xq];exact zr (qey c) hc,by rw [hlits];exact hl⟩
 obtain ⟨hI3,hA⟩:=jhv hI2 hFit (idle:=qr (normL c)) ((qix (qdq hr)).trans (qqq (qdq hr)))
 generalize k2.adds (codesN (normL c)) (qr (normL c))=k3 at hI3 hA ⊢
 have hlen:k3.lits.length=k.lits.length+1:=by rw [hA.ll,hlits]
 have hgo:∀ m,k3.gone.getD m false=k.gone.getD m false:=fun m=>by rw [hA.go,hgone]
 have hgn:k3.gone.getD nf.length false=false:=by rw [hgo,zd,zy (by omega)];rfl
 have hll:k2.lits.length=nf.length:=by rw [hlits,hnl]
 have hlit2:∀ m,lit k2 m=lit k m:=fun m=>by unfold lit;rw [hlits]
 refine ⟨⟨hI3,⟨by rw [zi,zae,hlen];omega,fun m hm=>?_,fun m hm=>?_⟩,?_,fun m hm=>?_,?_,?_⟩,hlen⟩
 ·rw [qhl]
  split
  ·rename_i e
   subst e
   rw [← hll]
   exact hA.ln
  ·rename_i e
   rw [zi,zae] at hm
   refine (hA.lo m (by omega)).trans ?_
   rw [hlit2]
   exact hD.F.li m (by omega)
 ·rw [qhl]
  split
  ·exact qec hr
  ·rename_i e
   rw [zi,zae] at hm
   exact hD.F.ri m (by omega)
 ·have:(fun m=>if m=k.lits.length then some (keyN (normL c)) else aliveN k nf m)=aliveN k3 (nf++[normL c]):=by
   funext m
   unfold aliveN
   rw [qhl,hgo,zi,zae,hnl]
   by_cases e:m=nf.length
   ·subst e
    rw [za rfl,za rfl,za ⟨by omega,by rw [← hgo];exact hgn⟩]
   ·rw [ze e,ze e]
    by_cases h2:m<nf.length
    ·have h3:m<nf.length+1:=by omega
     simp only [h2,h3]
    ·have h3:¬ m<nf.length+1:=by omega
     simp only [h2,h3]
  rw [← this]
  exact hL2.cong hA.ks hA.pm
 ·rw [qhl]
  split
  ·exact ⟨c,hr,rfl⟩
  ·rename_i e
   rw [zi,zae] at hm
   exact hD.N m (by omega)
 ·rw [List.all_append,hD.C,List.all_cons,hr];rfl
 ·have:live k3 (nf++[normL c])=live k nf++[normL c]:=by
   unfold live
   rw [zi,zae,List.range_succ,List.filter_append,zbd]
   congr 1
   ·have:(List.range nf.length).filter (fun n=>!(k3.gone.getD n false))=(List.range nf.length).filter fun n=>!(k.gone.getD n false):=List.filter_congr fun m _=>by rw [hgo]
    rw [this]
    refine xj fun m hm=>?_
    have:=List.mem_range.1 (List.mem_filter.1 hm).1
    rw [qhl,ze (by omega)]
   ·rw [List.filter_cons_of_pos (by rw [hgn];rfl),List.filter_nil,zag,zbq,qhl,za rfl]
  rw [this,zbd]
  exact hD.P.append (.refl _)
theorem qna (hD:Doc cs k nf) (hr:rightB c=true) :
  Doc cs (k.ask (normL c) (qr (normL c))).1 nf∧(k.ask (normL c) (qr (normL c))).2=jp cs c∧(k.ask (normL c) (qr (normL c))).1.lits.length=k.lits.length:=by
 have hfr:jp cs c=qjn cs (negs c):=by unfold jp;rw [hD.C,hr];rfl
 unfold K.ask
 by_cases hi:qr (normL c)=true
 ·rw [za hi]
  refine ⟨hD,?_,rfl⟩
  rw [hfr]
  exact (confR_iff.2 (jia ((qix (qdq hr)).1 hi))).symm
 ·rw [ze hi]
  have hg:=qqv (normL c)
  have hI1:=qhk hD.I (v:=(qe [normL c]).toNat) (by omega)
  have hG:=grown k (qe [normL c]).toNat
  have hroom:=qmu hD.I (qe [normL c]).toNat
  have hF1:=qxi (v:=(qe [normL c]).toNat) hD.F
  have hlive:live (k.grow (qe [normL c]).toNat) nf=live k nf:=by unfold live;rw [hG.go]
  have hbad:=jhz hF1 hD.C hr (by rw [hlive];exact hD.P)
  obtain ⟨hK,hI2,hf⟩:=jhm hI1 (c:=codesN (normL c)) (fun x hx=>by have:=qxh hr (zj _) x hx;omega)
  have hL1:Led (k.grow (qe [normL c]).toNat) (aliveN k nf):=hD.L.cong hG.ks hG.pm
  generalize k.grow (qe [normL c]).toNat=k1 at hI1 hG hF1 hlive hbad hK hI2 hf hL1 ⊢
  refine ⟨⟨hI2,⟨by rw [hK.ll];exact hF1.ln,fun n hn=>(hK.li n).trans (hF1.li n hn),hF1.ri⟩,?_,hD.N,hD.C,?_⟩,?_,by rw [hK.ll,hG.li]⟩
  ·have:aliveN (k1.follows (codesN (normL c))).1 nf=aliveN k nf:=by unfold aliveN;rw [hK.go,hG.go]
   rw [this]
   exact hL1.cong hK.ks hK.pm
  ·have:live (k1.follows (codesN (normL c))).1 nf=live k nf:=by rw [← hlive];unfold live;rw [hK.go]
   rw [this]
   exact hD.P
  ·rw [hfr]
   have h2:=hf.trans (hbad.trans confR_iff.symm)
   cases h3:(k1.follows (codesN (normL c))).2 with
   | true=>exact (h2.1 h3).symm
   | false=>
    cases h4:qjn cs (negs c) with
    | true=>rw [h2.2 h4] at h3;cases h3
    | false=>rfl
end Go.Ru
end
