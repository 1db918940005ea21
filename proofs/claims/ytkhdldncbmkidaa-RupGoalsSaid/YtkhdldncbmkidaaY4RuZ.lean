/- From clauses of numbers to clauses of codes: what the checker says is what the document says. Plain. -/
import Derived.Test.YtkhdldncbmkidaaY421
import Derived.Test.YtkhdldncbmkidaaY42
set_option linter.unusedSimpArgs false
set_option linter.unusedVariables false
namespace Go.Ru
open Go.Cl
section
variable {α β:Type} {neg:α→α} {neg':β→β} {cs:List (List α)} {so:List α}
def Spo (cs:List (List α)) (so:List α) (a:α):Prop:=a∈so∨∃ c∈cs,a∈c
theorem Der.spo {l:α} (h:Der neg cs so l):Spo cs so l:=by
 cases h with
 | base h=>exact .inl h
 | unit h1 h2 _=>exact .inr ⟨_,h1,h2⟩
theorem Der.mapOn (f:α→β) (hf:∀ a,Spo cs so a→f (neg a)=neg' (f a)) {l:α} (h:Der neg cs so l):Der neg' (cs.map (List.map f)) (so.map f) (f l):=by
 induction h with
 | base h=>exact .base (zy h)
 | @unit c l h1 h2 _ ih=>
  refine .unit (zy h1) (zy h2) fun m hm hne=>?_
  obtain ⟨k,hk,rfl⟩:=List.mem_map.1 hm
  rw [← hf k (.inr ⟨c,h1,hk⟩)]
  exact ih k hk fun e=>hne (e ▸ rfl)
theorem Der.unmapOn (f:α→β) (hf:∀ a,Spo cs so a→f (neg a)=neg' (f a)) (hi:∀ a b,f a=f b→a=b) {l:β} (h:Der neg' (cs.map (List.map f)) (so.map f) l):∃ x,f x=l∧Der neg cs so x:=by
 induction h with
 | base h=>
  obtain ⟨x,hx,rfl⟩:=List.mem_map.1 h
  exact ⟨x,rfl,.base hx⟩
 | @unit c l h1 h2 _ ih=>
  obtain ⟨c0,hc,rfl⟩:=List.mem_map.1 h1
  obtain ⟨x,hx,rfl⟩:=List.mem_map.1 h2
  refine ⟨x,rfl,.unit hc hx fun m hm hne=>?_⟩
  obtain ⟨y,hy,hd⟩:=ih (f m) (zy hm) fun e=>hne (hi _ _ e)
  rw [← hf m (.inr ⟨c0,hc,hm⟩)] at hy
  exact hi _ _ hy ▸ hd
theorem Bad.mapOn (f:α→β) (hf:∀ a,Spo cs so a→f (neg a)=neg' (f a)) (hi:∀ a b,f a=f b→a=b):Bad neg' (cs.map (List.map f)) (so.map f)↔Bad neg cs so:=by
 constructor
 ·rintro (⟨l,h1,h2⟩|⟨c,h1,h2⟩)
  ·obtain ⟨x,rfl,hx⟩:=h1.unmapOn f hf hi
   obtain ⟨y,hy,hd⟩:=h2.unmapOn f hf hi
   rw [← hf x hx.spo] at hy
   exact .inl ⟨x,hx,hi _ _ hy ▸ hd⟩
  ·obtain ⟨c0,hc,rfl⟩:=List.mem_map.1 h1
   refine .inr ⟨c0,hc,fun m hm=>?_⟩
   obtain ⟨y,hy,hd⟩:=(h2 (f m) (zy hm)).unmapOn f hf hi
   rw [← hf m (.inr ⟨c0,hc,hm⟩)] at hy
   exact hi _ _ hy ▸ hd
 ·rintro (⟨l,h1,h2⟩|⟨c,h1,h2⟩)
  ·exact .inl ⟨f l,h1.mapOn f hf,hf l h1.spo ▸ h2.mapOn f hf⟩
  ·refine .inr ⟨c.map f,zy h1,fun m hm=>?_⟩
   obtain ⟨k,hk,rfl⟩:=List.mem_map.1 hm
   rw [← hf k (.inr ⟨c,h1,hk⟩)]
   exact (h2 k hk).mapOn f hf
end
def jz (l:Int):Nat:=if l<0 then (-2 * l+1).toNat else (2 * l).toNat
def codesN (c:List Int):List Nat:=c.map jz
theorem qja {l:Int} (h:l≠0):jz (negI l)=ng (jz l):=by
 unfold jz negI
 by_cases h1:l<0
 ·rw [ze (by omega),za h1,quw,ze (by omega)];omega
 ·rw [za (by omega),ze h1,quw,za (by omega)];omega
theorem qmg (a b:Int) (h:jz a=jz b):a=b:=by
 unfold jz at h
 split at h <;> split at h <;> omega
theorem qpy {l:Int} {v:Nat} (h:absI l≤v):jz l<2 * v+2:=by
 unfold absI at h
 unfold jz
 split at h <;> split <;> omega
theorem qdg {c:List Int} (h:rightB c=true):∀ l∈c,l≠0:=fun l hl=>by
 have:=List.all_eq_true.1 h l hl
 exact ((qdd l).1 this).1
theorem qds {c:List Int} (h:rightB c=true):rightB (normL c)=true:=List.all_eq_true.2 fun l hl=>List.all_eq_true.1 h l (norm_mem.1 hl)
structure Fits (k:K) (nf:List (List Int)):Prop where
 ln:nf.length=k.lits.length
 li:∀ n,n<nf.length→(lit k n).Perm (codesN (nf.getD n []))
 ri:∀ n,n<nf.length→rightB (nf.getD n [])=true
def live (k:K) (nf:List (List Int)):List (List Int):=((List.range nf.length).filter fun n=>!(k.gone.getD n false)).map fun n=>nf.getD n []
theorem mem_live {k:K} {nf:List (List Int)} {c:List Int}:c∈live k nf↔∃ n,n<nf.length∧k.gone.getD n false=false∧nf.getD n []=c:=by
 unfold live
 rw [List.mem_map]
 constructor
 ·rintro ⟨n,h1,h2⟩
  rw [zbe,List.mem_range,xn] at h1
  exact ⟨n,h1.1,h1.2,h2⟩
 ·rintro ⟨n,h1,h2,h3⟩
  refine ⟨n,?_,h3⟩
  rw [zbe,List.mem_range,xn]
  exact ⟨h1,h2⟩
theorem jgn {k:K} {nf cs:List (List Int)} {c:List Int} (hF:Fits k nf) (hcs:cs.all rightB=true) (hc:rightB c=true) (hl:(cs.map normL).Perm (live k nf)) :
  Bad ng (cl k) ((codesN (normL c)).map ng)↔Bad negI cs (negs c):=by
 have hne:∀ c∈cs,∀ l∈c,l≠0:=fun c h=>qdg (List.all_eq_true.1 hcs c h)
 have hcne:=qdg hc
 -- by normal forms
 have e1:Bad negI cs (negs c)↔Bad negI (live k nf) (negs (normL c)):=by
  constructor
  ·refine fun h=>h.mono (fun d hd=>?_) fun l hl'=>.base ?_
   ·exact ⟨normL d,hl.mem_iff.1 (zy hd),fun x=>norm_mem⟩
   ·obtain ⟨y,hy,rfl⟩:=List.mem_map.1 hl'
    exact zy (norm_mem.2 hy)
  ·refine fun h=>h.mono (fun d hd=>?_) fun l hl'=>.base ?_
   ·obtain ⟨c',h1,rfl⟩:=List.mem_map.1 (hl.mem_iff.2 hd)
    exact ⟨c',h1,fun x=>norm_mem.symm⟩
   ·obtain ⟨y,hy,rfl⟩:=List.mem_map.1 hl'
    exact zy (norm_mem.1 hy)
 have hlne:∀ d∈live k nf,∀ l∈d,l≠0:=fun d hd=>by
  obtain ⟨n,h1,_,rfl⟩:=mem_live.1 hd
  exact qdg (hF.ri n h1)
 -- by codes
 have e2:Bad ng ((live k nf).map codesN) ((negs (normL c)).map jz)↔Bad negI (live k nf) (negs (normL c)):=by
  refine Bad.mapOn jz (fun a ha=>?_) qmg
  rcases ha with ha|⟨d,hd,ha⟩
  ·obtain ⟨y,hy,rfl⟩:=List.mem_map.1 ha
   have:=hcne y (norm_mem.1 hy)
   exact qja (by omega)
  ·exact qja (hlne d hd a ha)
 have e3:(negs (normL c)).map jz=(codesN (normL c)).map ng:=by
  unfold negs codesN
  rw [List.map_map,List.map_map]
  exact xh fun y hy=>qja (hcne y (norm_mem.1 hy))
 rw [e1,← e2,e3]
 constructor
 ·refine fun h=>h.mono (fun d hd=>?_) fun l hl'=>.base hl'
  obtain ⟨n,ha,rfl⟩:=mem_cl.1 hd
  have hn:n<nf.length:=by rw [hF.ln];exact ha.1
  exact ⟨codesN (nf.getD n []),zy (mem_live.2 ⟨n,hn,ha.2.1,rfl⟩),fun x=>((hF.li n hn).mem_iff).symm⟩
 ·refine fun h=>h.drop qdq (fun _ _ x _=>qin x) fun d hd=>?_
  obtain ⟨d0,hd0,rfl⟩:=List.mem_map.1 hd
  obtain ⟨n,hn,hg,rfl⟩:=mem_live.1 hd0
  by_cases ht:∃ z∈lit k n,ng z∈lit k n
  ·obtain ⟨z,h1,h2⟩:=ht
   exact .inr ⟨z,(hF.li n hn).mem_iff.1 h1,(hF.li n hn).mem_iff.1 h2⟩
  ·exact .inl ⟨lit k n,mem_cl.2 ⟨n,⟨by rw [← hF.ln];exact hn,hg,ht⟩,rfl⟩,fun x=>(hF.li n hn).mem_iff⟩
theorem jgo {cs:List (List Int)} {c:List Int} (h:∃ v,v∈c∧-v∈c):Bad negI cs (negs c):=by
 obtain ⟨v,h1,h2⟩:=h
 exact .inl ⟨-v,.base (zy h1),.base (by
  have:=zy (f:=fun l:Int=>-l) h2
  simp only [Int.neg_neg] at this
  show - -v∈_
  rw [Int.neg_neg]
  exact this)⟩
theorem qpz {c:List Int} (h0:∀ x∈c,x≠0):(∃ v,v∈c∧-v∈c)↔∃ z∈codesN (normL c),ng z∈codesN (normL c):=by
 constructor
 ·rintro ⟨v,h1,h2⟩
  refine ⟨jz v,zy (norm_mem.2 h1),?_⟩
  rw [← qja (h0 v h1)]
  exact zy (norm_mem.2 h2)
 ·rintro ⟨z,h1,h2⟩
  obtain ⟨v,hv,rfl⟩:=List.mem_map.1 h1
  obtain ⟨w,hw,e⟩:=List.mem_map.1 h2
  have hv':=norm_mem.1 hv
  rw [← qja (h0 v hv')] at e
  have:=qmg _ _ e
  subst this
  exact ⟨v,hv',norm_mem.1 hw⟩
end Go.Ru
