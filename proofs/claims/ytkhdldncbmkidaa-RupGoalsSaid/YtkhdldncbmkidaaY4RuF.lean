/- The checker's answers are the document's. Plain. -/
import Derived.Test.YtkhdldncbmkidaaY4RuE
import Derived.Test.YtkhdldncbmkidaaY42
set_option linter.unusedSimpArgs false
set_option linter.unusedVariables false
namespace Go.Ru
open Go.Cl
variable {k k':K} {alive:Nat→Option (List UInt8)} {name:List UInt8} {n p:Nat} {cs nf:List (List Int)} {c:List Int}
theorem qwn {α:Type} {l:List α} {i:Nat} (h:i<l.length):(l[i]::l.eraseIdx i).Perm l:=by
 rw [List.eraseIdx_eq_take_drop_succ]
 refine (List.perm_middle (l₁:=l.take i) (a:=l[i]) (l₂:=l.drop (i+1))).symm.trans (.of_eq ?_)
 rw [← List.drop_eq_getElem_cons h,List.take_append_drop]
theorem qqi:∀ {cs:List (List Int)},qbp c cs=none→∀ d∈cs,qbo d c=false
 | [],_,d,hd=>(by cases hd)
 | x::r,h,d,hd=>by
  unfold qbp at h
  cases hr:qbp c r with
  | some j=>rw [hr] at h;cases h
  | none=>
   rw [hr] at h
   simp only at h
   split at h
   ·cases h
   ·rename_i hs
    rcases List.mem_cons.1 hd with rfl|hd
    ·exact Bool.eq_false_iff.2 hs
    ·exact qqi hr d hd
theorem qqj:∀ {cs:List (List Int)} {j:Nat},qbp c cs=some j→j<cs.length∧qbo (cs.getD j []) c=true
 | [],j,h=>(by cases h)
 | x::r,j,h=>by
  unfold qbp at h
  cases hr:qbp c r with
  | some i=>
   rw [hr] at h
   cases h
   have ih:=qqj hr
   exact ⟨by simp;exact ih.1,by rw [List.getD_cons_succ];exact ih.2⟩
  | none=>
   rw [hr] at h
   simp only at h
   split at h
   ·rename_i hs
    cases h
    exact ⟨by simp,hs⟩
   ·cases h
theorem qft {d:List Int} (hd:rightB d=true) (hc:rightB c=true):qbo d c=true↔normL d=normL c:=by
 unfold qbo
 rw [hd,hc]
 simp only [cond_true,beq_iff_eq]
theorem jgv {hN:∀ n,n<nf.length→∃ c,rightB c=true∧nf.getD n []=normL c} (hr:rightB c=true):aliveN k nf n=some (keyN (normL c))↔n<nf.length∧k.gone.getD n false=false∧nf.getD n []=normL c:=by
 unfold aliveN
 split
 ·rename_i h
  constructor
  ·intro e
   obtain ⟨d,h1,h2⟩:=hN n h.1
   exact ⟨h.1,h.2,qqb (by rw [h2];exact qds h1) (qds hr) (Option.some.inj e)⟩
  ·rintro ⟨_,_,e⟩;rw [e]
 ·rename_i h
  exact ⟨fun e=>(by cases e),fun e=>absurd ⟨e.1,e.2.1⟩ h⟩
theorem qwo (hD:Doc cs k nf) (hr:rightB c=true) :
  match qbp c cs with
  | none=>k.rem (keyN (normL c))=(k,false)
  | some j=>(k.rem (keyN (normL c))).2=true∧Doc (cs.eraseIdx j) (k.rem (keyN (normL c))).1 nf∧(k.rem (keyN (normL c))).1.lits.length=k.lits.length:=by
 have hal:=fun n=>jgv (k:=k) (n:=n) (hN:=hD.N) hr
 have hmem:normL c∈live k nf↔∃ d∈cs,normL d=normL c:=by
  rw [← hD.P.mem_iff,List.mem_map]
 have hri:∀ d∈cs,rightB d=true:=fun d hd=>List.all_eq_true.1 hD.C d hd
 have hsn:=jgt (name:=keyN (normL c)) hD.L
 cases hla:qbp c cs with
 | none=>
  have hno:∀ n,aliveN k nf n≠some (keyN (normL c)):=fun n hn=>by
   obtain ⟨h1,h2,h3⟩:=(hal n).1 hn
   obtain ⟨d,hd,e⟩:=hmem.1 (mem_live.2 ⟨n,h1,h2,h3⟩)
   have:=qqi hla d hd
   rw [(qft (hri d hd) hr).2 e] at this
   cases this
  unfold K.rem
  rw [hsn.2 hno]
 | some j=>
  obtain ⟨hj,hs⟩:=qqj hla
  have hjm:cs.getD j []∈cs:=qg hj
  have hje:=(qft (hri _ hjm) hr).1 hs
  show (k.rem (keyN (normL c))).2=true∧Doc (cs.eraseIdx j) (k.rem (keyN (normL c))).1 nf∧_
  have hsk:∃ p,seek k (keyN (normL c))=some p:=by
   cases h:seek k (keyN (normL c)) with
   | some p=>exact ⟨p,rfl⟩
   | none=>
    obtain ⟨n,h1,h2,h3⟩:=mem_live.1 (hmem.2 ⟨_,hjm,hje⟩)
    exact absurd ((hal n).2 ⟨h1,h2,h3⟩) (hsn.1 h n)
  obtain ⟨p,hp⟩:=hsk
  obtain ⟨hpl,hpn⟩:=qeq hp
  have hne:=(hD.L.kv p hpl).1
  have hrem:k.rem (keyN (normL c))=((k.strike p).drops ((nums k p).getD ((nums k p).length - 1) 0),true):=by
   unfold K.rem
   rw [hp]
   simp only
   rw [ze hne]
  rw [hrem]
  obtain ⟨hL',hnm⟩:=jgs hD.L hpl rfl
  generalize (nums k p).getD ((nums k p).length - 1) 0=n at hL' hnm ⊢
  obtain ⟨h1,h2,h3⟩:=(hal n).1 (hpn ▸ (hD.L.kv p hpl).2.2 n hnm)
  obtain ⟨a,b,d,he⟩:=qwk k p
  have hI1:=qqf hD.I a b d
  rw [← he] at hI1
  have hli:(k.strike p).lits=k.lits:=by rw [he]
  have hgo:(k.strike p).gone=k.gone:=by rw [he]
  have hI2:=jgj hI1 (n:=n) (by rw [hli,← hD.F.ln];exact h1) (by rw [hgo];exact h2)
  have hgl:k.gone.length=k.lits.length:=hD.I.s.p.c.g
  have hg:∀ m,((k.strike p).drops n).gone.getD m false=if m=n then true else k.gone.getD m false:=fun m=>by
   show ((k.strike p).gone.set n true).getD m false=_
   rw [jb,hgo]
   by_cases h:m=n
   ·rw [za ⟨h,by have:=hD.F.ln;omega⟩,za h]
   ·rw [ze (fun h'=>h h'.1),ze h]
  refine ⟨rfl,⟨hI2,⟨by show nf.length=(k.strike p).lits.length;rw [hli];exact hD.F.ln,fun m hm=>?_,hD.F.ri⟩,?_,hD.N,?_,?_⟩,by show (k.strike p).lits.length=_;rw [hli]⟩
  ·show ((k.strike p).lits.getD m []).Perm _
   rw [hli];exact hD.F.li m hm
  ·have:(fun m=>if m=n then none else aliveN k nf m)=aliveN ((k.strike p).drops n) nf:=by
    funext m
    unfold aliveN
    rw [hg]
    by_cases e:m=n
    ·rw [za e,za e,ze (fun h=>by cases h.2)]
    ·rw [ze e,ze e]
   rw [← this]
   exact hL'.cong rfl rfl
  ·rw [zah]
   exact fun x hx=>hri x ((List.eraseIdx_subset) hx)
  ·have e1:(cs.map normL).Perm (normL c::(cs.eraseIdx j).map normL):=by
    have:=(qwn hj).map normL
    rw [xr] at this
    have e:cs[j]=cs.getD j []:=by rw [xc,zb hj];rfl
    rw [e,hje] at this
    exact this.symm
   have e2:(live k nf).Perm (normL c::live ((k.strike p).drops n) nf):=by
    unfold live
    rw [← h3,← xr (f:=fun m=>nf.getD m [])]
    refine List.Perm.map _ ?_
    have hm:n∈(List.range nf.length).filter fun m=>!(k.gone.getD m false):=List.mem_filter.2 ⟨List.mem_range.2 h1,by rw [h2];rfl⟩
    refine (List.perm_cons_erase hm).trans (.of_eq ?_)
    congr 1
    rw [(List.nodup_range.sublist List.filter_sublist).erase_eq_filter,List.filter_filter]
    refine List.filter_congr fun m _=>?_
    rw [hg]
    by_cases e:m=n
    ·subst e;simp
    ·rw [ze e]
     have:(m != n)=true:=by simp [e]
     rw [this,zbi]
   exact (e1.symm.trans (hD.P.trans e2)).cons_inv
def K.init:K:={ lits:=[],gone:=[],keys:=[],pm:=[],pe:=fun _=>0,watch:=[],we:=fun _=>0,val:=[],rea:=[],trail:=[],te:=0,head:=0,units:=[],ue:=0,empty:=0,broken:=false,stale:=true }
theorem qwp:Inv K.init:=by
 refine ⟨⟨⟨⟨rfl,fun x hx=>(by cases hx),fun x=>.inl rfl,fun x=>⟨fun h=>(by cases h),fun h=>(by cases h.1)⟩,zbc⟩,⟨fun n x hx=>(by cases hx),fun n=>zbc,fun n=>xa _,xa _,xa _,rfl,rfl⟩,fun y n hn=>(by cases hn),fun y=>zbc,zi _⟩,fun n ha=>absurd ha.1 (zu _),fun y n hn=>(by cases hn),fun n hn=>(by cases hn),zbc,fun n ha=>absurd ha.1 (zu _),rfl⟩,fun h=>(by cases h),fun h=>(by cases h)⟩
theorem grL9 (cs:List (List Int)):0≤qe cs∧qe cs≤100000:=by
 unfold qe
 have:∀ (cs:List (List Int)) (n:Int),0≤n∧n≤100000→0≤cs.foldl jf n∧cs.foldl jf n≤100000:=by
  intro cs
  induction cs with
  | nil=>intro n h;exact h
  | cons c cs ih=>intro n h;rw [List.foldl_cons];exact ih _ (qwi n h c)
 exact this cs 0 ⟨Int.le_refl _,by decide⟩
def K.fill (k:K) (cs:List (List Int)):K:=cs.foldl (fun k c=>k.add (normL c) (qu (normL c))) k
def qal (cs:List (List Int)):K:=(K.init.grow (qe cs).toNat).fill cs
theorem qqk:∀ (r cs:List (List Int)) (k:K) (nf:List (List Int)),Doc cs k nf→r.all rightB=true→k.lits.length+r.length≤100000→(∀ c∈r,c.length≤100000)→∃ nf',Doc (cs++r) (k.fill r) nf'∧(k.fill r).lits.length=k.lits.length+r.length
 | [],cs,k,nf,hD,_,_,_=>⟨nf,by rw [zaq];exact hD,rfl⟩
 | c::r,cs,k,nf,hD,hr,hl,hc=>by
  rw [zbm,zh] at hr
  rw [xj] at hl
  obtain ⟨h1,h2⟩:=qqh hD hr.1 (by omega) (hc c (xu ..))
  obtain ⟨nf',h3,h4⟩:=qqk r _ _ _ h1 hr.2 (by rw [h2];omega) (fun d hd=>hc d (xk _ hd))
  refine ⟨nf',?_,?_⟩
  ·rw [xd,List.singleton_append] at h3
   exact h3
  ·show ((k.add (normL c) (qu (normL c))).fill r).lits.length=_
   rw [h4,h2,xj];omega
theorem qmi {cs:List (List Int)} (hr:cs.all rightB=true) (hl:cs.length≤100000) (hc:∀ c∈cs,c.length≤100000):∃ nf,Doc cs (qal cs) nf∧(qal cs).lits.length=cs.length:=by
 have hg:=grL9 cs
 have hG:=grown K.init (qe cs).toNat
 have h0:Doc [] (K.init.grow (qe cs).toNat) []:=by
  refine ⟨qgy qwp (by omega),⟨by rw [hG.li];rfl,fun n hn=>absurd hn (zu _),fun n hn=>absurd hn (zu _)⟩,?_,fun n hn=>absurd hn (zu _),rfl,.refl _⟩
  have hk:(K.init.grow (qe cs).toNat).keys=[]:=hG.ks
  exact ⟨by rw [hk];exact zbc,by rw [hk];exact zbc,fun p hp=>by rw [hk] at hp;exact absurd hp (zu _),fun p hp=>by rw [hk] at hp;exact absurd hp (zu _),fun n s hn=>by
   unfold aliveN at hn
   rw [ze (fun h=>zu _ h.1)] at hn
   cases hn⟩
 obtain ⟨nf,h1,h2⟩:=qqk cs [] _ [] h0 hr (by rw [hG.li];show 0 + _≤_;omega) hc
 refine ⟨nf,h1,?_⟩
 show ((K.init.grow (qe cs).toNat).fill cs).lits.length=_
 rw [h2,hG.li]
 show 0 + _=_
 omega
def linesK:K→Nat→List Ln→Int × K
 | k,_,[]=>(0,k)
 | k,i,⟨del,c⟩::r=>
  if rightB c then
   match del with
   | false=>if (k.ask (normL c) (qu (normL c))).2 then linesK ((k.ask (normL c) (qu (normL c))).1.add (normL c) (qu (normL c))) (i+1) r else ((i:Int)+1,k)
   | true=>if (k.rem (keyN (normL c))).2 then linesK (k.rem (keyN (normL c))).1 (i+1) r else ((i:Int)+1,k)
  else ((i:Int)+1,k)
theorem qql:∀ (r:List Ln) (cs:List (List Int)) (k:K) (nf:List (List Int)) (i:Nat),Doc cs k nf→k.lits.length+r.length≤100000→(∀ l∈r,l.c.length≤100000)→
  (linesK k i r).1=(qaf cs i r).1∧((qaf cs i r).1=0→∃ nf',Doc (qaf cs i r).2 (linesK k i r).2 nf')
 | [],cs,k,nf,i,hD,_,_=>⟨rfl,fun _=>⟨nf,hD⟩⟩
 | ⟨del,c⟩::r,cs,k,nf,i,hD,hl,hc=>by
  rw [xj] at hl
  have hcr:∀ l∈r,l.c.length≤100000:=fun l h=>hc l (xk _ h)
  have hcl:c.length≤100000:=hc ⟨del,c⟩ (xu ..)
  have hpos:((i:Int)+1)≠0:=by omega
  unfold linesK qaf
  by_cases hr:rightB c=true
  ·rw [za hr,za hr]
   cases del with
   | false=>
    simp only
    obtain ⟨h1,h2,h3⟩:=qmh hD hr
    rw [h2]
    cases hf:qak cs c with
    | true=>
     rw [za rfl,za rfl]
     obtain ⟨h4,h5⟩:=qqh h1 hr (by rw [h3];omega) hcl
     exact qql r _ _ _ (i+1) h4 (by rw [h5,h3];omega) hcr
    | false=>
     rw [ze (by simp),ze (by simp)]
     exact ⟨rfl,fun h=>absurd h hpos⟩
   | true=>
    simp only
    have h:=qwo hD hr
    cases hla:qbp c cs with
    | none=>
     rw [hla] at h
     rw [h]
     exact ⟨rfl,fun h=>absurd h hpos⟩
    | some j=>
     rw [hla] at h
     obtain ⟨h1,h2,h3⟩:=h
     rw [za h1]
     exact qql r _ _ _ (i+1) h2 (by rw [h3];omega) hcr
  ·rw [ze hr,ze hr]
   exact ⟨rfl,fun h=>absurd h hpos⟩
def qdu (cs:List (List Int)) (c:List Int):Bool:=
 if rightB c=true∧cs.all rightB=true then ((qal cs).ask (normL c) (qu (normL c))).2 else false
def qcd (cs:List (List Int)) (proof:List Ln) (goal:List Int):Int:=
 if rightB goal=true∧cs.all rightB=true then
  if (linesK (qal cs) 0 proof).1=0 then (if ((linesK (qal cs) 0 proof).2.ask (normL goal) (qu (normL goal))).2 then 0 else (proof.length:Int)+1)
  else (linesK (qal cs) 0 proof).1
 else -1
theorem qwq {cs:List (List Int)} {c:List Int} (hl:cs.length≤100000) (hc:∀ c∈cs,c.length≤100000):qdu cs c=qak cs c:=by
 unfold qdu
 by_cases h:rightB c=true∧cs.all rightB=true
 ·rw [za h]
  obtain ⟨nf,hD,_⟩:=qmi h.2 hl hc
  exact (qmh hD h.1).2.1
 ·rw [ze h]
  unfold qak
  cases h1:rightB c with
  | false=>simp
  | true=>
   cases h2:cs.all rightB with
   | true=>exact absurd ⟨h1,h2⟩ h
   | false=>rfl
theorem qqm {cs:List (List Int)} {proof:List Ln} {goal:List Int} (hl:cs.length+proof.length≤100000) (hc:∀ c∈cs,c.length≤100000) (hp:∀ l∈proof,l.c.length≤100000):qcd cs proof goal=qgz cs proof goal:=by
 unfold qcd qgz
 by_cases h:rightB goal=true∧cs.all rightB=true
 ·rw [za h,za (c:=(cs.all rightB && rightB goal)=true) (by rw [h.1,h.2];rfl)]
  obtain ⟨nf,hD,hlen⟩:=qmi h.2 (by omega) hc
  obtain ⟨h1,h2⟩:=qql proof cs (qal cs) nf 0 hD (by rw [hlen];omega) hp
  rw [h1]
  cases hR:qaf cs 0 proof with
  | mk m th=>
   rw [hR] at h2
   simp only at h2 ⊢
   by_cases hm:m=0
   ·subst hm
    rw [za rfl]
    obtain ⟨nf',hD'⟩:=h2 rfl
    obtain ⟨_,h4,_⟩:=qmh hD' h.1
    rw [h4]
    simp only
    cases hs:th.any (fun d=>qbo d goal) with
    | false=>rw [zbn]
    | true=>
     obtain ⟨d,hd,he⟩:=List.any_eq_true.1 hs
     have hdr:=List.all_eq_true.1 hD'.C d hd
     have hn:=(qft hdr h.1).1 he
     have hf:qak th goal=true:=by
      unfold qak
      rw [hD'.C,h.1]
      refine confR_iff.2 (.inr ⟨d,hd,fun m hm=>.base ?_⟩)
      have:m∈goal:=norm_mem.1 (hn ▸ norm_mem.2 hm)
      exact zy this
     rw [hf]
     rfl
   ·rw [ze hm]
    split
    ·rename_i heq
     simp only [Prod.mk.injEq] at heq
     exact absurd heq.1 hm
    ·rename_i heq
     simp only [Prod.mk.injEq] at heq
     exact heq.1
 ·rw [ze h,ze]
  intro h'
  rw [zh] at h'
  exact h ⟨h'.2,h'.1⟩
end Go.Ru
