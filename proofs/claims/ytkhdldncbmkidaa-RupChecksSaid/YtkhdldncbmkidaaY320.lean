/- Some texts of the library, one behind the other. -/
import Derived.Test.YtkhdldncbmkidaaY319
import Derived.Test.YtkhdldncbmkidaaY32
set_option linter.unusedSimpArgs false
set_option linter.unusedVariables false
section
namespace Go.Ru
open Go.Cl
section
variable {α β:Type} {neg:α→α} {neg':β→β} {cs:List (List α)} {so:List α}
def Spo (cs:List (List α)) (so:List α) (a:α):Prop:=a∈so∨∃ c∈cs,a∈c
theorem Der.spo {l:α} (h:Der neg cs so l):Spo cs so l:=by
 cases h with
 | base h=>exact .inl h
 | unit h1 h2 _=>exact .inr ⟨_,h1,h2⟩
theorem Der.mapOn (f:α→β) (hf:∀ a,Spo cs so a→f (neg a)=neg' (f a)) {l:α} (h:Der neg cs so l):Der neg' (cs.map (List.map f)) (so.map f) (f l):=by
 induction h with
 | base h=>exact .base (zz h)
 | @unit c l h1 h2 _ ih=>
  refine .unit (zz h1) (zz h2) fun m hm hne=>?_
  obtain ⟨k,hk,rfl⟩:=List.mem_map.1 hm
  rw [← hf k (.inr ⟨c,h1,hk⟩)]
  exact ih k hk fun e=>hne (e ▸ rfl)
theorem Der.unmapOn (f:α→β) (hf:∀ a,Spo cs so a→f (neg a)=neg' (f a)) (hi:∀ a b,f a=f b→a=b) {l:β} (h:Der neg' (cs.map (List.map f)) (so.map f) l):∃ x,f x=l∧Der neg cs so x:=by
 induction h with
 | base h=>
  obtain ⟨x,hx,rfl⟩:=List.mem_map.1 h
  exact ⟨x,rfl,.base hx⟩
 | @unit c l h1 h2 _ ih=>
  obtain ⟨c0,hc,rfl⟩:=List.mem_map.1 h1
  obtain ⟨x,hx,rfl⟩:=List.mem_map.1 h2
  refine ⟨x,rfl,.unit hc hx fun m hm hne=>?_⟩
  obtain ⟨y,hy,hd⟩:=ih (f m) (zz hm) fun e=>hne (hi _ _ e)
  rw [← hf m (.inr ⟨c0,hc,hm⟩)] at hy
  exact hi _ _ hy ▸ hd
theorem Bad.mapOn (f:α→β) (hf:∀ a,Spo cs so a→f (neg a)=neg' (f a)) (hi:∀ a b,f a=f b→a=b):Bad neg' (cs.map (List.map f)) (so.map f)↔Bad neg cs so:=by
 constructor
 ·rintro (⟨l,h1,h2⟩|⟨c,h1,h2⟩)
  ·obtain ⟨x,rfl,hx⟩:=h1.unmapOn f hf hi
   obtain ⟨y,hy,hd⟩:=h2.unmapOn f hf hi
   rw [← hf x hx.spo] at hy
   exact .inl ⟨x,hx,hi _ _ hy ▸ hd⟩
  ·obtain ⟨c0,hc,rfl⟩:=List.mem_map.1 h1
   refine .inr ⟨c0,hc,fun m hm=>?_⟩
   obtain ⟨y,hy,hd⟩:=(h2 (f m) (zz hm)).unmapOn f hf hi
   rw [← hf m (.inr ⟨c0,hc,hm⟩)] at hy
   exact hi _ _ hy ▸ hd
 ·rintro (⟨l,h1,h2⟩|⟨c,h1,h2⟩)
  ·exact .inl ⟨f l,h1.mapOn f hf,hf l h1.spo ▸ h2.mapOn f hf⟩
  ·refine .inr ⟨c.map f,zz h1,fun m hm=>?_⟩
   obtain ⟨k,hk,rfl⟩:=List.mem_map.1 hm
   rw [← hf k (.inr ⟨c,h1,hk⟩)]
   exact (h2 k hk).mapOn f hf
end
def qag (l:Int):Nat:=if l<0 then (-2 * l+1).toNat else (2 * l).toNat
def codesN (c:List Int):List Nat:=c.map qag
theorem qjo {l:Int} (h:l≠0):qag (negI l)=ng (qag l):=by
 unfold qag negI
 by_cases h1:l<0
 ·rw [ze (by omega),za h1,qvr,ze (by omega)];omega
 ·rw [za (by omega),ze h1,qvr,za (by omega)];omega
theorem qmz (a b:Int) (h:qag a=qag b):a=b:=by
 unfold qag at h
 split at h <;> split at h <;> omega
theorem qqp {l:Int} {v:Nat} (h:absI l≤v):qag l<2 * v+2:=by
 unfold absI at h
 unfold qag
 split at h <;> split <;> omega
theorem qdq {c:List Int} (h:rightB c=true):∀ l∈c,l≠0:=fun l hl=>by
 have:=List.all_eq_true.1 h l hl
 exact ((jy l).1 this).1
theorem qec {c:List Int} (h:rightB c=true):rightB (normL c)=true:=List.all_eq_true.2 fun l hl=>List.all_eq_true.1 h l (norm_mem.1 hl)
structure Fits (k:K) (nf:List (List Int)):Prop where
 ln:nf.length=k.lits.length
 li:∀ n,n<nf.length→(lit k n).Perm (codesN (nf.getD n []))
 ri:∀ n,n<nf.length→rightB (nf.getD n [])=true
def live (k:K) (nf:List (List Int)):List (List Int):=((List.range nf.length).filter fun n=>!(k.gone.getD n false)).map fun n=>nf.getD n []
theorem mem_live {k:K} {nf:List (List Int)} {c:List Int}:c∈live k nf↔∃ n,n<nf.length∧k.gone.getD n false=false∧nf.getD n []=c:=by
 unfold live
 rw [List.mem_map]
 constructor
 ·rintro ⟨n,h1,h2⟩
  rw [zbj,List.mem_range,xr] at h1
  exact ⟨n,h1.1,h1.2,h2⟩
 ·rintro ⟨n,h1,h2,h3⟩
  refine ⟨n,?_,h3⟩
  rw [zbj,List.mem_range,xr]
  exact ⟨h1,h2⟩
theorem jhz {k:K} {nf cs:List (List Int)} {c:List Int} (hF:Fits k nf) (hcs:cs.all rightB=true) (hc:rightB c=true) (hl:(cs.map normL).Perm (live k nf)) :
  Bad ng (cl k) ((codesN (normL c)).map ng)↔Bad negI cs (negs c):=by
 have hne:∀ c∈cs,∀ l∈c,l≠0:=fun c h=>qdq (List.all_eq_true.1 hcs c h)
 have hcne:=qdq hc
 -- by normal forms
 have e1:Bad negI cs (negs c)↔Bad negI (live k nf) (negs (normL c)):=by
  constructor
  ·refine fun h=>h.mono (fun d hd=>?_) fun l hl'=>.base ?_
   ·exact ⟨normL d,hl.mem_iff.1 (zz hd),fun x=>norm_mem⟩
   ·obtain ⟨y,hy,rfl⟩:=List.mem_map.1 hl'
    exact zz (norm_mem.2 hy)
  ·refine fun h=>h.mono (fun d hd=>?_) fun l hl'=>.base ?_
   ·obtain ⟨c',h1,rfl⟩:=List.mem_map.1 (hl.mem_iff.2 hd)
    exact ⟨c',h1,fun x=>norm_mem.symm⟩
   ·obtain ⟨y,hy,rfl⟩:=List.mem_map.1 hl'
    exact zz (norm_mem.1 hy)
 have hlne:∀ d∈live k nf,∀ l∈d,l≠0:=fun d hd=>by
  obtain ⟨n,h1,_,rfl⟩:=mem_live.1 hd
  exact qdq (hF.ri n h1)
 -- by codes
 have e2:Bad ng ((live k nf).map codesN) ((negs (normL c)).map qag)↔Bad negI (live k nf) (negs (normL c)):=by
  refine Bad.mapOn qag (fun a ha=>?_) qmz
  rcases ha with ha|⟨d,hd,ha⟩
  ·obtain ⟨y,hy,rfl⟩:=List.mem_map.1 ha
   have:=hcne y (norm_mem.1 hy)
   exact qjo (by omega)
  ·exact qjo (hlne d hd a ha)
 have e3:(negs (normL c)).map qag=(codesN (normL c)).map ng:=by
  unfold negs codesN
  rw [List.map_map,List.map_map]
  exact xj fun y hy=>qjo (hcne y (norm_mem.1 hy))
 rw [e1,← e2,e3]
 constructor
 ·refine fun h=>h.mono (fun d hd=>?_) fun l hl'=>.base hl'
  obtain ⟨n,ha,rfl⟩:=mem_cl.1 hd
  have hn:n<nf.length:=by rw [hF.ln];exact ha.1
  exact ⟨codesN (nf.getD n []),zz (mem_live.2 ⟨n,hn,ha.2.1,rfl⟩),fun x=>((hF.li n hn).mem_iff).symm⟩
 ·refine fun h=>h.drop qeb (fun _ _ x _=>qja x) fun d hd=>?_
  obtain ⟨d0,hd0,rfl⟩:=List.mem_map.1 hd
  obtain ⟨n,hn,hg,rfl⟩:=mem_live.1 hd0
  by_cases ht:∃ z∈lit k n,ng z∈lit k n
  ·obtain ⟨z,h1,h2⟩:=ht
   exact .inr ⟨z,(hF.li n hn).mem_iff.1 h1,(hF.li n hn).mem_iff.1 h2⟩
  ·exact .inl ⟨lit k n,mem_cl.2 ⟨n,⟨by rw [← hF.ln];exact hn,hg,ht⟩,rfl⟩,fun x=>(hF.li n hn).mem_iff⟩
theorem jia {cs:List (List Int)} {c:List Int} (h:∃ v,v∈c∧-v∈c):Bad negI cs (negs c):=by
 obtain ⟨v,h1,h2⟩:=h
 exact .inl ⟨-v,.base (zz h1),.base (by
  have:=zz (f:=fun l:Int=>-l) h2
  simp only [Int.neg_neg] at this
  show - -v∈_
  rw [Int.neg_neg]
  exact this)⟩
theorem qqq {c:List Int} (h0:∀ x∈c,x≠0):(∃ v,v∈c∧-v∈c)↔∃ z∈codesN (normL c),ng z∈codesN (normL c):=by
 constructor
 ·rintro ⟨v,h1,h2⟩
  refine ⟨qag v,zz (norm_mem.2 h1),?_⟩
  rw [← qjo (h0 v h1)]
  exact zz (norm_mem.2 h2)
 ·rintro ⟨z,h1,h2⟩
  obtain ⟨v,hv,rfl⟩:=List.mem_map.1 h1
  obtain ⟨w,hw,e⟩:=List.mem_map.1 h2
  have hv':=norm_mem.1 hv
  rw [← qjo (h0 v hv')] at e
  have:=qmz _ _ e
  subst this
  exact ⟨v,hv',norm_mem.1 hw⟩
end Go.Ru
end
section
namespace Go.Ru
open List renaming getD_eq_getElem?_getD → zd
open Go.Cl
def qed (x:Nat):List UInt8:=[UInt8.ofNat x,UInt8.ofNat (x / 256),UInt8.ofNat (x / 65536)]
def keyN (c:List Int):List UInt8:=c.flatMap fun l=>qed (qag l)
theorem jib {x y:Nat} (hx:x<16777216) (hy:y<16777216) (h:qed x=qed y):x=y:=by
 unfold qed at h
 simp only [List.cons.injEq,and_true] at h
 obtain ⟨h1,h2,h3⟩:=h
 have key:∀ a b:Nat,UInt8.ofNat a=UInt8.ofNat b→a % 256=b % 256:=fun a b h=>by
  have:=congrArg UInt8.toNat h
  simpa using this
 have h1:=key _ _ h1
 have h2:=key _ _ h2
 have h3:=key _ _ h3
 omega
theorem qqr {l:Int} (h:litB l=true):qag l<16777216:=by
 have:=(jy l).1 h
 unfold qag
 split <;> omega
theorem qqs:∀ {a b:List Int},rightB a=true→rightB b=true→keyN a=keyN b→a=b
 | [],[],_,_,_=>rfl
 | [],y::b,_,_,h=>by simp [keyN,qed] at h
 | x::a,[],_,_,h=>by simp [keyN,qed] at h
 | x::a,y::b,ha,hb,h=>by
  unfold rightB at ha hb
  rw [List.all_cons,zh] at ha hb
  unfold keyN at h
  rw [List.flatMap_cons,List.flatMap_cons] at h
  have h2:=List.append_inj h rfl
  have e1:=qmz _ _ (jib (qqr ha.1) (qqr hb.1) h2.1)
  rw [e1,qqs (a:=a) (b:=b) ha.2 hb.2 h2.2]
def seek (k:K) (name:List UInt8):Option Nat:=k.keys.findIdx? fun e=>decide (e.1=name)
def nums (k:K) (p:Nat):List Nat:=k.pm.getD (k.keys.getD p ([],0)).2 []
def K.note (k:K) (name:List UInt8) (n:Nat):K:=
 match seek k name with
 | some p=>{ k with pm:=k.pm.set (k.keys.getD p ([],0)).2 (nums k p++[n]) }
 | none=>{ k with keys:=k.keys++[(name,k.pm.length)],pm:=k.pm++[[n]],pe:=fun j=>if j<k.pm.length then k.pe j else 0 }
def K.strike (k:K) (p:Nat):K:=
 if (nums k p).length=1 then { k with keys:=k.keys.eraseIdx p }
 else { k with pm:=k.pm.set (k.keys.getD p ([],0)).2 (nums k p).dropLast,pe:=bump k.pe (k.keys.getD p ([],0)).2 }
def K.rem (k:K) (name:List UInt8):K × Bool:=
 match seek k name with
 | some p=>if nums k p=[] then (k,false) else ((k.strike p).drops ((nums k p).getD ((nums k p).length - 1) 0),true)
 | none=>(k,false)
structure Led (k:K) (alive:Nat→Option (List UInt8)):Prop where
 kn:(k.keys.map (·.1)).Nodup
 ki:(k.keys.map (·.2)).Nodup
 kp:∀ p,p<k.keys.length→(k.keys.getD p ([],0)).2<k.pm.length
 kv:∀ p,p<k.keys.length→nums k p≠[]∧(nums k p).Nodup∧∀ n∈nums k p,alive n=some (k.keys.getD p ([],0)).1
 kl:∀ n s,alive n=some s→∃ p,p<k.keys.length∧(k.keys.getD p ([],0)).1=s∧n∈nums k p
variable {k:K} {alive:Nat→Option (List UInt8)} {name:List UInt8} {n p:Nat}
theorem qfc (h:seek k name=some p):p<k.keys.length∧(k.keys.getD p ([],0)).1=name:=by
 unfold seek at h
 rw [List.findIdx?_eq_some_iff_getElem] at h
 obtain ⟨h1,h2,_⟩:=h
 refine ⟨h1,?_⟩
 rw [zd,zb h1]
 exact zaa h2
theorem qqt (h:seek k name=none):∀ p,p<k.keys.length→(k.keys.getD p ([],0)).1≠name:=fun p hp e=>by
 unfold seek at h
 rw [List.findIdx?_eq_none_iff] at h
 have:=h _ (qj (d:=([],0)) hp)
 rw [decide_eq_false_iff_not] at this
 exact this e
theorem Led.one (hL:Led k alive) {p q:Nat} (hp:p<k.keys.length) (hq:q<k.keys.length) (e:(k.keys.getD p ([],0)).1=(k.keys.getD q ([],0)).1):p=q:=by
 have h:=hL.kn
 have hp':p<(k.keys.map (·.1)).length:=by simpa using hp
 have hq':q<(k.keys.map (·.1)).length:=by simpa using hq
 refine (List.getElem_inj (h₀:=hp') (h₁:=hq') h).1 ?_
 rw [zd,zd,zb hp,zb hq] at e
 simpa using e
theorem Led.two (hL:Led k alive) {p q:Nat} (hp:p<k.keys.length) (hq:q<k.keys.length) (e:(k.keys.getD p ([],0)).2=(k.keys.getD q ([],0)).2):p=q:=by
 have h:=hL.ki
 have hp':p<(k.keys.map (·.2)).length:=by simpa using hp
 have hq':q<(k.keys.map (·.2)).length:=by simpa using hq
 refine (List.getElem_inj (h₀:=hp') (h₁:=hq') h).1 ?_
 rw [zd,zd,zb hp,zb hq] at e
 simpa using e
theorem jic (hL:Led k alive) (hn:alive n=none):Led (k.note name n) (fun m=>if m=n then some name else alive m):=by
 have hnew:∀ p,p<k.keys.length→n ∉ nums k p:=fun p hp hm=>by
  have:=(hL.kv p hp).2.2 n hm
  rw [hn] at this
  cases this
 unfold K.note
 cases hs:seek k name with
 | some p=>
  obtain ⟨hp,he⟩:=qfc hs
  have hi:=hL.kp p hp
  have hN:∀ q,q<k.keys.length→nums { k with pm:=k.pm.set (k.keys.getD p ([],0)).2 (nums k p++[n]) } q=if q=p then nums k p++[n] else nums k q:=fun q hq=>by
   show (k.pm.set _ _).getD (k.keys.getD q ([],0)).2 []=_
   rw [jc]
   by_cases e:q=p
   ·subst e;rw [za ⟨rfl,hi⟩,za rfl]
   ·rw [ze (fun h=>e (hL.two hq hp h.1)),ze e];rfl
  show Led ({ k with pm:=k.pm.set (k.keys.getD p ([],0)).2 (nums k p++[n]) }:K) _
  refine ⟨hL.kn,hL.ki,fun q hq=>?_,fun q hq=>?_,fun m s hm=>?_⟩
  ·show (k.keys.getD q ([],0)).2<(k.pm.set _ _).length
   rw [xd];exact hL.kp q hq
  ·rw [hN q hq]
   obtain ⟨h1,h2,h3⟩:=hL.kv q hq
   have hq2:∀ m∈nums k q,(if m=n then some name else alive m)=some (k.keys.getD q ([],0)).1:=fun m hm=>by
    have hne:m≠n:=fun e=>by subst e;exact hnew q hq hm
    rw [ze hne]
    exact h3 m hm
   split
   ·rename_i e
    subst e
    refine ⟨by simp,?_,fun m hm=>?_⟩
    ·rw [zap]
     refine ⟨h2,by simp,fun a ha b hb e=>?_⟩
     rw [zk] at hb
     subst hb e
     exact hnew _ hq ha
    ·rcases List.mem_append.1 hm with h|h
     ·exact hq2 m h
     ·rw [zk] at h
      rw [za h]
      exact congrArg some he.symm
   ·exact ⟨h1,h2,hq2⟩
  ·by_cases e:m=n
   ·rw [za e] at hm
    cases hm
    exact ⟨p,hp,he,by rw [hN p hp,za rfl,e];simp⟩
   ·rw [ze e] at hm
    obtain ⟨q,h1,h2,h3⟩:=hL.kl m s hm
    refine ⟨q,h1,h2,?_⟩
    rw [hN q h1]
    split
    ·rename_i e;subst e;exact xy _ h3
    ·exact h3
 | none=>
  have hno:=qqt hs
  have hk:∀ q,(k.keys++[(name,k.pm.length)]).getD q ([],0)=if q=k.keys.length then (name,k.pm.length) else k.keys.getD q ([],0):=fun q=>by
   rw [zd,zd]
   by_cases e:q=k.keys.length
   ·subst e
    rw [za rfl,zl (zj _),zad];rfl
   ·rw [ze e]
    by_cases h2:q<k.keys.length
    ·rw [zn h2]
    ·rw [zy (by simp;omega),zy (l:=k.keys) (by omega)]
  have hN:∀ q,q≤k.keys.length→nums { k with keys:=k.keys++[(name,k.pm.length)],pm:=k.pm++[[n]],pe:=fun j=>if j<k.pm.length then k.pe j else 0 } q=if q=k.keys.length then [n] else nums k q:=fun q hq=>by
   show (k.pm++[[n]]).getD ((k.keys++[(name,k.pm.length)]).getD q ([],0)).2 []=_
   rw [hk]
   by_cases e:q=k.keys.length
   ·rw [za e,za e,zd,zl (zj _),zad];rfl
   ·rw [ze e,ze e,zd,zn (hL.kp q (by omega)),← zd];rfl
  have hlen:(k.keys++[(name,k.pm.length)]).length=k.keys.length+1:=by simp
  show Led ({ k with keys:=k.keys++[(name,k.pm.length)],pm:=k.pm++[[n]],pe:=fun j=>if j<k.pm.length then k.pe j else 0 }:K) _
  refine ⟨?_,?_,fun q hq=>?_,fun q hq=>?_,fun m s hm=>?_⟩
  ·show ((k.keys++[(name,k.pm.length)]).map (·.1)).Nodup
   rw [zbd,zap]
   refine ⟨hL.kn,by simp,fun a ha b hb e=>?_⟩
   simp only [zag,zbq,zk] at hb
   subst hb e
   obtain ⟨e,he,hx⟩:=List.mem_map.1 ha
   obtain ⟨q,hq,rfl⟩:=qal ([],0) he
   exact hno q hq hx
  ·show ((k.keys++[(name,k.pm.length)]).map (·.2)).Nodup
   rw [zbd,zap]
   refine ⟨hL.ki,by simp,fun a ha b hb e=>?_⟩
   simp only [zag,zbq,zk] at hb
   subst hb
   obtain ⟨e',he,hx⟩:=List.mem_map.1 ha
   obtain ⟨q,hq,rfl⟩:=qal ([],0) he
   have:=hL.kp q hq
   omega
  ·rw [hlen] at hq
   show ((k.keys++[(name,k.pm.length)]).getD q ([],0)).2<(k.pm++[[n]]).length
   rw [hk,zi]
   split
   ·simp
   ·have:=hL.kp q (by omega)
    rw [zae];omega
  ·rw [hlen] at hq
   rw [hN q (by omega)]
   show _∧_∧∀ m∈_,_=some ((k.keys++[(name,k.pm.length)]).getD q ([],0)).1
   rw [hk]
   split
   ·exact ⟨by simp,by simp,fun m hm=>by rw [zk] at hm;rw [za hm]⟩
   ·have hq':q<k.keys.length:=by omega
    obtain ⟨h1,h2,h3⟩:=hL.kv q hq'
    exact ⟨h1,h2,fun m hm=>by
     have hne:m≠n:=fun e=>by subst e;exact hnew q hq' hm
     rw [ze hne]
     exact h3 m hm⟩
  ·show ∃ q,q<(k.keys++[(name,k.pm.length)]).length∧((k.keys++[(name,k.pm.length)]).getD q ([],0)).1=s∧_
   rw [hlen]
   by_cases e:m=n
   ·rw [za e] at hm
    cases hm
    exact ⟨k.keys.length,by omega,by rw [hk,za rfl],by rw [hN _ (zj _),za rfl,e];simp⟩
   ·rw [ze e] at hm
    obtain ⟨q,h1,h2,h3⟩:=hL.kl m s hm
    exact ⟨q,by omega,by rw [hk,ze (by omega)];exact h2,by rw [hN q (by omega),ze (by omega)];exact h3⟩
end Go.Ru
end
