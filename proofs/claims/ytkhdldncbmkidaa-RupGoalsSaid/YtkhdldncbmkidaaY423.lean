/- Some texts of the library, one behind the other. -/
import Derived.Test.YtkhdldncbmkidaaY4RuZ
import Derived.Test.YtkhdldncbmkidaaY42
set_option linter.unusedSimpArgs false
set_option linter.unusedVariables false
section
namespace Go.Ru
open List renaming getD_eq_getElem?_getD → zd
open Go.Cl
def qdt (x:Nat):List UInt8:=[UInt8.ofNat x,UInt8.ofNat (x / 256),UInt8.ofNat (x / 65536)]
def keyN (c:List Int):List UInt8:=c.flatMap fun l=>qdt (jz l)
theorem jgp {x y:Nat} (hx:x<16777216) (hy:y<16777216) (h:qdt x=qdt y):x=y:=by
 unfold qdt at h
 simp only [List.cons.injEq,and_true] at h
 obtain ⟨h1,h2,h3⟩:=h
 have key:∀ a b:Nat,UInt8.ofNat a=UInt8.ofNat b→a % 256=b % 256:=fun a b h=>by
  have:=congrArg UInt8.toNat h
  simpa using this
 have h1:=key _ _ h1
 have h2:=key _ _ h2
 have h3:=key _ _ h3
 omega
theorem qqa {l:Int} (h:litB l=true):jz l<16777216:=by
 have:=(qdd l).1 h
 unfold jz
 split <;> omega
theorem qqb:∀ {a b:List Int},rightB a=true→rightB b=true→keyN a=keyN b→a=b
 | [],[],_,_,_=>rfl
 | [],y::b,_,_,h=>by simp [keyN,qdt] at h
 | x::a,[],_,_,h=>by simp [keyN,qdt] at h
 | x::a,y::b,ha,hb,h=>by
  unfold rightB at ha hb
  rw [zbm,zh] at ha hb
  unfold keyN at h
  rw [List.flatMap_cons,List.flatMap_cons] at h
  have h2:=List.append_inj h rfl
  have e1:=qmg _ _ (jgp (qqa ha.1) (qqa hb.1) h2.1)
  rw [e1,qqb (a:=a) (b:=b) ha.2 hb.2 h2.2]
def seek (k:K) (name:List UInt8):Option Nat:=k.keys.findIdx? fun e=>decide (e.1=name)
def nums (k:K) (p:Nat):List Nat:=k.pm.getD (k.keys.getD p ([],0)).2 []
def K.note (k:K) (name:List UInt8) (n:Nat):K:=
 match seek k name with
 | some p=>{ k with pm:=k.pm.set (k.keys.getD p ([],0)).2 (nums k p++[n]) }
 | none=>{ k with keys:=k.keys++[(name,k.pm.length)],pm:=k.pm++[[n]],pe:=fun j=>if j<k.pm.length then k.pe j else 0 }
def K.strike (k:K) (p:Nat):K:=
 if (nums k p).length=1 then { k with keys:=k.keys.eraseIdx p }
 else { k with pm:=k.pm.set (k.keys.getD p ([],0)).2 (nums k p).dropLast,pe:=bump k.pe (k.keys.getD p ([],0)).2 }
def K.rem (k:K) (name:List UInt8):K × Bool:=
 match seek k name with
 | some p=>if nums k p=[] then (k,false) else ((k.strike p).drops ((nums k p).getD ((nums k p).length - 1) 0),true)
 | none=>(k,false)
structure Led (k:K) (alive:Nat→Option (List UInt8)):Prop where
 kn:(k.keys.map (·.1)).Nodup
 ki:(k.keys.map (·.2)).Nodup
 kp:∀ p,p<k.keys.length→(k.keys.getD p ([],0)).2<k.pm.length
 kv:∀ p,p<k.keys.length→nums k p≠[]∧(nums k p).Nodup∧∀ n∈nums k p,alive n=some (k.keys.getD p ([],0)).1
 kl:∀ n s,alive n=some s→∃ p,p<k.keys.length∧(k.keys.getD p ([],0)).1=s∧n∈nums k p
variable {k:K} {alive:Nat→Option (List UInt8)} {name:List UInt8} {n p:Nat}
theorem qeq (h:seek k name=some p):p<k.keys.length∧(k.keys.getD p ([],0)).1=name:=by
 unfold seek at h
 rw [List.findIdx?_eq_some_iff_getElem] at h
 obtain ⟨h1,h2,_⟩:=h
 refine ⟨h1,?_⟩
 rw [zd,zb h1]
 exact xx h2
theorem qqc (h:seek k name=none):∀ p,p<k.keys.length→(k.keys.getD p ([],0)).1≠name:=fun p hp e=>by
 unfold seek at h
 rw [List.findIdx?_eq_none_iff] at h
 have:=h _ (qg (d:=([],0)) hp)
 rw [decide_eq_false_iff_not] at this
 exact this e
theorem Led.one (hL:Led k alive) {p q:Nat} (hp:p<k.keys.length) (hq:q<k.keys.length) (e:(k.keys.getD p ([],0)).1=(k.keys.getD q ([],0)).1):p=q:=by
 have h:=hL.kn
 have hp':p<(k.keys.map (·.1)).length:=by simpa using hp
 have hq':q<(k.keys.map (·.1)).length:=by simpa using hq
 refine (List.getElem_inj (h₀:=hp') (h₁:=hq') h).1 ?_
 rw [zd,zd,zb hp,zb hq] at e
 simpa using e
theorem Led.two (hL:Led k alive) {p q:Nat} (hp:p<k.keys.length) (hq:q<k.keys.length) (e:(k.keys.getD p ([],0)).2=(k.keys.getD q ([],0)).2):p=q:=by
 have h:=hL.ki
 have hp':p<(k.keys.map (·.2)).length:=by simpa using hp
 have hq':q<(k.keys.map (·.2)).length:=by simpa using hq
 refine (List.getElem_inj (h₀:=hp') (h₁:=hq') h).1 ?_
 rw [zd,zd,zb hp,zb hq] at e
 simpa using e
theorem jgq (hL:Led k alive) (hn:alive n=none):Led (k.note name n) (fun m=>if m=n then some name else alive m):=by
 have hnew:∀ p,p<k.keys.length→n ∉ nums k p:=fun p hp hm=>by
  have:=(hL.kv p hp).2.2 n hm
  rw [hn] at this
  cases this
 unfold K.note
 cases hs:seek k name with
 | some p=>
  obtain ⟨hp,he⟩:=qeq hs
  have hi:=hL.kp p hp
  have hN:∀ q,q<k.keys.length→nums { k with pm:=k.pm.set (k.keys.getD p ([],0)).2 (nums k p++[n]) } q=if q=p then nums k p++[n] else nums k q:=fun q hq=>by
   show (k.pm.set _ _).getD (k.keys.getD q ([],0)).2 []=_
   rw [jb]
   by_cases e:q=p
   ·subst e;rw [za ⟨rfl,hi⟩,za rfl]
   ·rw [ze (fun h=>e (hL.two hq hp h.1)),ze e];rfl
  show Led ({ k with pm:=k.pm.set (k.keys.getD p ([],0)).2 (nums k p++[n]) }:K) _
  refine ⟨hL.kn,hL.ki,fun q hq=>?_,fun q hq=>?_,fun m s hm=>?_⟩
  ·show (k.keys.getD q ([],0)).2<(k.pm.set _ _).length
   rw [xg];exact hL.kp q hq
  ·rw [hN q hq]
   obtain ⟨h1,h2,h3⟩:=hL.kv q hq
   have hq2:∀ m∈nums k q,(if m=n then some name else alive m)=some (k.keys.getD q ([],0)).1:=fun m hm=>by
    have hne:m≠n:=fun e=>by subst e;exact hnew q hq hm
    rw [ze hne]
    exact h3 m hm
   split
   ·rename_i e
    subst e
    refine ⟨by simp,?_,fun m hm=>?_⟩
    ·rw [zan]
     refine ⟨h2,by simp,fun a ha b hb e=>?_⟩
     rw [zk] at hb
     subst hb e
     exact hnew _ hq ha
    ·rcases List.mem_append.1 hm with h|h
     ·exact hq2 m h
     ·rw [zk] at h
      rw [za h]
      exact congrArg some he.symm
   ·exact ⟨h1,h2,hq2⟩
  ·by_cases e:m=n
   ·rw [za e] at hm
    cases hm
    exact ⟨p,hp,he,by rw [hN p hp,za rfl,e];simp⟩
   ·rw [ze e] at hm
    obtain ⟨q,h1,h2,h3⟩:=hL.kl m s hm
    refine ⟨q,h1,h2,?_⟩
    rw [hN q h1]
    split
    ·rename_i e;subst e;exact xy _ h3
    ·exact h3
 | none=>
  have hno:=qqc hs
  have hk:∀ q,(k.keys++[(name,k.pm.length)]).getD q ([],0)=if q=k.keys.length then (name,k.pm.length) else k.keys.getD q ([],0):=fun q=>by
   rw [zd,zd]
   by_cases e:q=k.keys.length
   ·subst e
    rw [za rfl,zm (zi _),zag];rfl
   ·rw [ze e]
    by_cases h2:q<k.keys.length
    ·rw [zo h2]
    ·rw [zw (by simp;omega),zw (l:=k.keys) (by omega)]
  have hN:∀ q,q≤k.keys.length→nums { k with keys:=k.keys++[(name,k.pm.length)],pm:=k.pm++[[n]],pe:=fun j=>if j<k.pm.length then k.pe j else 0 } q=if q=k.keys.length then [n] else nums k q:=fun q hq=>by
   show (k.pm++[[n]]).getD ((k.keys++[(name,k.pm.length)]).getD q ([],0)).2 []=_
   rw [hk]
   by_cases e:q=k.keys.length
   ·rw [za e,za e,zd,zm (zi _),zag];rfl
   ·rw [ze e,ze e,zd,zo (hL.kp q (by omega)),← zd];rfl
  have hlen:(k.keys++[(name,k.pm.length)]).length=k.keys.length+1:=by simp
  show Led ({ k with keys:=k.keys++[(name,k.pm.length)],pm:=k.pm++[[n]],pe:=fun j=>if j<k.pm.length then k.pe j else 0 }:K) _
  refine ⟨?_,?_,fun q hq=>?_,fun q hq=>?_,fun m s hm=>?_⟩
  ·show ((k.keys++[(name,k.pm.length)]).map (·.1)).Nodup
   rw [zbk,zan]
   refine ⟨hL.kn,by simp,fun a ha b hb e=>?_⟩
   simp only [xr,zbl,zk] at hb
   subst hb e
   obtain ⟨e,he,hx⟩:=List.mem_map.1 ha
   obtain ⟨q,hq,rfl⟩:=qbb ([],0) he
   exact hno q hq hx
  ·show ((k.keys++[(name,k.pm.length)]).map (·.2)).Nodup
   rw [zbk,zan]
   refine ⟨hL.ki,by simp,fun a ha b hb e=>?_⟩
   simp only [xr,zbl,zk] at hb
   subst hb
   obtain ⟨e',he,hx⟩:=List.mem_map.1 ha
   obtain ⟨q,hq,rfl⟩:=qbb ([],0) he
   have:=hL.kp q hq
   omega
  ·rw [hlen] at hq
   show ((k.keys++[(name,k.pm.length)]).getD q ([],0)).2<(k.pm++[[n]]).length
   rw [hk,zj]
   split
   ·simp
   ·have:=hL.kp q (by omega)
    rw [zai];omega
  ·rw [hlen] at hq
   rw [hN q (by omega)]
   show _∧_∧∀ m∈_,_=some ((k.keys++[(name,k.pm.length)]).getD q ([],0)).1
   rw [hk]
   split
   ·exact ⟨by simp,by simp,fun m hm=>by rw [zk] at hm;rw [za hm]⟩
   ·have hq':q<k.keys.length:=by omega
    obtain ⟨h1,h2,h3⟩:=hL.kv q hq'
    exact ⟨h1,h2,fun m hm=>by
     have hne:m≠n:=fun e=>by subst e;exact hnew q hq' hm
     rw [ze hne]
     exact h3 m hm⟩
  ·show ∃ q,q<(k.keys++[(name,k.pm.length)]).length∧((k.keys++[(name,k.pm.length)]).getD q ([],0)).1=s∧_
   rw [hlen]
   by_cases e:m=n
   ·rw [za e] at hm
    cases hm
    exact ⟨k.keys.length,by omega,by rw [hk,za rfl],by rw [hN _ (zi _),za rfl,e];simp⟩
   ·rw [ze e] at hm
    obtain ⟨q,h1,h2,h3⟩:=hL.kl m s hm
    exact ⟨q,by omega,by rw [hk,ze (by omega)];exact h2,by rw [hN q (by omega),ze (by omega)];exact h3⟩
end Go.Ru
end
section
namespace Go.Ru
open List renaming getD_eq_getElem?_getD → zd
open Go.Cl
variable {k:K} {alive:Nat→Option (List UInt8)} {name:List UInt8} {n p:Nat}
theorem qwg {α:Type} {l:List α} {p q:Nat} {d:α}:(l.eraseIdx p).getD q d=l.getD (if q<p then q else q+1) d:=by
 rw [zd,zd,List.getElem?_eraseIdx]
 split <;> rfl
theorem jgr {l:List Nat} (h:l≠[]):l=l.dropLast++[l.getD (l.length - 1) 0]:=by
 have:=List.dropLast_concat_getLast h
 rw [List.getLast_eq_getElem] at this
 rw [zd,zb (by have:=List.length_pos_iff.2 h;omega)]
 exact this.symm
theorem jgs (hL:Led k alive) (hp:p<k.keys.length) (hn:n=(nums k p).getD ((nums k p).length - 1) 0):Led (k.strike p) (fun m=>if m=n then none else alive m)∧n∈nums k p:=by
 obtain ⟨h1,h2,h3⟩:=hL.kv p hp
 have hsp:=jgr h1
 rw [← hn] at hsp
 have hnm:n∈nums k p:=by rw [hsp];simp
 have hnd:n ∉ (nums k p).dropLast:=fun hm=>by
  rw [hsp,zan] at h2
  exact h2.2.2 n hm n (List.mem_singleton_self _) rfl
 have hoth:∀ q,q<k.keys.length→q≠p→n ∉ nums k q:=fun q hq hne hm=>by
  have a:=h3 n hnm
  have c:=(hL.kv q hq).2.2 n hm
  rw [a] at c
  exact hne (hL.one hp hq (Option.some.inj c)).symm
 refine ⟨?_,hnm⟩
 unfold K.strike
 split
 ·rename_i hl1
  have hone:nums k p=[n]:=by
   rw [hsp,zj,zai] at hl1
   rw [hsp,zz (l:=(nums k p).dropLast) (by omega)];rfl
  have hlen:(k.keys.eraseIdx p).length=k.keys.length - 1:=by rw [List.length_eraseIdx,za hp]
  have hN:∀ q,nums { k with keys:=k.keys.eraseIdx p } q=nums k (if q<p then q else q+1):=fun q=>by
   show k.pm.getD ((k.keys.eraseIdx p).getD q ([],0)).2 []=_
   rw [qwg];rfl
  have hK:∀ q,(k.keys.eraseIdx p).getD q ([],0)=k.keys.getD (if q<p then q else q+1) ([],0):=fun q=>qwg
  have hi:∀ q,q<k.keys.length - 1→(if q<p then q else q+1)<k.keys.length∧(if q<p then q else q+1)≠p:=fun q hq=>by split <;> omega
  refine ⟨?_,?_,fun q hq=>?_,fun q hq=>?_,fun m s hm=>?_⟩
  ·show ((k.keys.eraseIdx p).map (·.1)).Nodup
   exact hL.kn.sublist ((List.eraseIdx_sublist ..).map _)
  ·show ((k.keys.eraseIdx p).map (·.2)).Nodup
   exact hL.ki.sublist ((List.eraseIdx_sublist ..).map _)
  ·have hq:q<(k.keys.eraseIdx p).length:=hq
   rw [hlen] at hq
   show ((k.keys.eraseIdx p).getD q ([],0)).2<k.pm.length
   rw [hK]
   exact hL.kp _ (hi q hq).1
  ·have hq:q<(k.keys.eraseIdx p).length:=hq
   rw [hlen] at hq
   rw [hN]
   show _∧_∧∀ m∈_,_=some ((k.keys.eraseIdx p).getD q ([],0)).1
   rw [hK]
   obtain ⟨a,b,c⟩:=hL.kv _ (hi q hq).1
   refine ⟨a,b,fun m hm=>?_⟩
   have hne:m≠n:=fun e=>by subst e;exact hoth _ (hi q hq).1 (hi q hq).2 hm
   rw [ze hne]
   exact c m hm
  ·by_cases e:m=n
   ·rw [za e] at hm;cases hm
   ·rw [ze e] at hm
    obtain ⟨q,a,b,c⟩:=hL.kl m s hm
    have hqp:q≠p:=fun e'=>by
     subst e'
     rw [hone,zk] at c
     exact e c
    have hq':(if (if q<p then q else q - 1)<p then (if q<p then q else q - 1) else (if q<p then q else q - 1)+1)=q:=by
     by_cases h:q<p
     ·rw [za h,za h]
     ·rw [ze h,ze (by omega)];omega
    refine ⟨if q<p then q else q - 1,?_,?_,?_⟩
    ·show _<(k.keys.eraseIdx p).length
     rw [hlen];split <;> omega
    ·show ((k.keys.eraseIdx p).getD _ ([],0)).1=s
     rw [hK,hq'];exact b
    ·rw [hN,hq'];exact c
 ·rename_i hl1
  have hi:=hL.kp p hp
  have hN:∀ q,q<k.keys.length→nums { k with pm:=k.pm.set (k.keys.getD p ([],0)).2 (nums k p).dropLast,pe:=bump k.pe (k.keys.getD p ([],0)).2 } q=if q=p then (nums k p).dropLast else nums k q:=fun q hq=>by
   show (k.pm.set _ _).getD (k.keys.getD q ([],0)).2 []=_
   rw [jb]
   by_cases e:q=p
   ·subst e;rw [za ⟨rfl,hi⟩,za rfl]
   ·rw [ze (fun h=>e (hL.two hq hp h.1)),ze e];rfl
  have hdl:(nums k p).dropLast≠[]:=fun e=>hl1 (by rw [hsp,e];rfl)
  refine ⟨hL.kn,hL.ki,fun q hq=>?_,fun q hq=>?_,fun m s hm=>?_⟩
  ·show (k.keys.getD q ([],0)).2<(k.pm.set _ _).length
   rw [xg];exact hL.kp q hq
  ·have hq:q<k.keys.length:=hq
   rw [hN q hq]
   show _∧_∧∀ m∈_,_=some (k.keys.getD q ([],0)).1
   obtain ⟨a,b,c⟩:=hL.kv q hq
   split
   ·rename_i e
    subst e
    refine ⟨hdl,b.sublist (List.dropLast_sublist _),fun m hm=>?_⟩
    have hne:m≠n:=fun e=>by subst e;exact hnd hm
    rw [ze hne]
    exact c m (List.dropLast_subset _ hm)
   ·rename_i e
    refine ⟨a,b,fun m hm=>?_⟩
    have hne:m≠n:=fun e'=>by subst e';exact hoth q hq e hm
    rw [ze hne]
    exact c m hm
  ·by_cases e:m=n
   ·rw [za e] at hm;cases hm
   ·rw [ze e] at hm
    obtain ⟨q,a,b,c⟩:=hL.kl m s hm
    refine ⟨q,a,b,?_⟩
    rw [hN q a]
    split
    ·rename_i e'
     subst e'
     rw [hsp] at c
     rcases List.mem_append.1 c with h|h
     ·exact h
     ·rw [zk] at h;exact absurd h e
    ·exact c
theorem jgt (hL:Led k alive):seek k name=none↔∀ n,alive n≠some name:=by
 constructor
 ·intro h n hn
  obtain ⟨p,h1,h2,_⟩:=hL.kl n name hn
  exact qqc h p h1 h2
 ·intro h
  cases hs:seek k name with
  | none=>rfl
  | some p=>
   obtain ⟨h1,h2⟩:=qeq hs
   obtain ⟨a,_,c⟩:=hL.kv p h1
   obtain ⟨m,hm⟩:=List.exists_mem_of_ne_nil _ a
   exact absurd (h2 ▸ c m hm) (h m)
end Go.Ru
end
