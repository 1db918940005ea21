/- Some texts of the library, one behind the other. -/
import Derived.Test.YtkhdldncbmkidaaQ3
import Derived.Test.YtkhdldncbmkidaaQ2
import Derived.Test.YtkhdldncbmkidaaChecked
set_option linter.unusedSimpArgs false
set_option linter.unusedVariables false
section
namespace Go.Proofs.Ytkhdldncbmkidaa
open List renaming getD_eq_getElem?_getD → zd
open Go Go.Sx Go.RowKit Go.St Go.Cl
set_option maxRecDepth 100000
set_option maxHeartbeats 4000000
def qae (cs:List (List Int)):AV:=slcL (fun l=>[ints l]) [] 1 cs
theorem qua {α:Type} (q:α→Bool) (l:List α):(l.all q)=!(l.any fun x=>!q x):=by
 induction l with
 | nil=>rfl
 | cons x l ih=>rw [List.all_cons,List.any_cons,ih,Bool.not_or,Bool.not_not]
theorem qim {α:Type} (q:α→Bool) (l:List α):decide (0≤Go.St.idx q l)=l.any q:=by
 unfold Go.St.idx
 cases h:l.findIdx? q with
 | none=>
  rw [List.findIdx?_eq_none_iff] at h
  have:l.any q=false:=by rw [zbl];intro h';rw [zay] at h';obtain ⟨x,hx,hq⟩:=h';rw [h x hx] at hq;cases hq
  rw [this];rfl
 | some i=>
  rw [List.findIdx?_eq_some_iff_getElem] at h
  obtain ⟨h1,h2,_⟩:=h
  have:l.any q=true:=by rw [zay];exact ⟨_,zas h1,h2⟩
  rw [this];exact zam (by simp)
theorem qbq (l:Int):Con Try.prog 57 [iv l] (.bool (litB l)):=by
 refine zK {} 300 Try.func57 (fun c0 rdb=>?_)
 (repeat' ((conv=>whnf);first|refine zA ?_|refine zO ?_|refine Ob.auto ?_|refine zD 300 ?_|(apply zB <;> intro hb <;> (try simp [-zd] at hb) <;> try (exfalso;omega))|refine Ob.intro ?_ ?_))
 exact Le.refl _
theorem qub (l:Int) (h:litB l=true):Con Try.prog 48 [iv l] (iv (absI l)):=by
 have h:=(qca l).1 h
 refine zK {} 300 Try.func48 (fun c0 rdb=>?_)
 (repeat' ((conv=>whnf);first|refine zA ?_|refine zO ?_|refine Ob.auto ?_|refine zI ?_|refine zD 300 ?_|(apply zB <;> intro hb <;> (try simp [-zd] at hb) <;> try (exfalso;omega))|refine Ob.intro ?_ ?_))
 all_goals (refine Le.of_eq (congrArg (AV.int _) ?_);unfold absI;omega)
theorem jeg (l:Int):Con Try.prog 59 [iv l] (.bool (!litB l)):=by
 refine zK {} 300 Try.func59 (fun c0 rdb=>?_)
 (repeat' ((conv=>whnf);first|refine zA ?_|refine zO ?_|refine Ob.auto ?_|refine zC 300 (qbq l) ?_|refine zG 300 (fun hg=>qbq l) ?_|(refine CallY.con (qbq l) (by rfl) leA ?_)|(refine CallZ.con (fun hg=>qbq l) qf (by rfl) ?_)|(refine qh (fun _=>rfl) 300 (qbq l) qc (by (repeat' (first|exact trivial|exact Le.refl _|(refine And.intro ?_ ?_))) <;> fail) (by rfl) (by kernel_rfl) ?_)|(refine qi (fun _=>rfl) 300 (fun hg=>qbq l) (fun hg=>qc) (fun hg=>(by (repeat' (first|exact trivial|exact Le.refl _|exact Le.cnd hg|(refine And.intro ?_ ?_))) <;> fail)) (by rfl) (by kernel_rfl) ?_)|refine zD 300 ?_|(apply zB <;> intro hb <;> (try simp [-zd] at hb) <;> try (exfalso;omega))|refine Ob.intro ?_ ?_))
 exact Le.refl _
theorem jeh (m:List Bool) (l:Int):Con Try.prog 56 [iv l,.rptr [qar m]] (.bool (litB l && isTrue m l)):=by
 refine zK {} 300 Try.func56 (fun c0 rdb=>?_)
 (repeat' ((conv=>whnf);first|refine zA ?_|refine zO ?_|refine Ob.auto ?_|refine zC 300 (qbq l) ?_|refine zG 300 (fun hg=>qbq l) ?_|(refine CallY.con (qbq l) (by rfl) leA ?_)|(refine CallZ.con (fun hg=>qbq l) qf (by rfl) ?_)|(refine qh (fun _=>rfl) 300 (qbq l) qc (by (repeat' (first|exact trivial|exact Le.refl _|(refine And.intro ?_ ?_))) <;> fail) (by rfl) (by kernel_rfl) ?_)|(refine qi (fun _=>rfl) 300 (fun hg=>qbq l) (fun hg=>qc) (fun hg=>(by (repeat' (first|exact trivial|exact Le.refl _|exact Le.cnd hg|(refine And.intro ?_ ?_))) <;> fail)) (by rfl) (by kernel_rfl) ?_)|refine zD 300 ?_|(apply zB <;> intro hb <;> (try simp [-zd] at hb) <;> try (exfalso;omega))|refine Ob.intro ?_ ?_))
 ·rw [hb];exact Le.refl _
 ·have hl:=(qca l).1 hb
  have hv:=qub l hb
  have ha:1≤absI l∧absI l≤100000:=by unfold absI;omega
  (repeat' ((conv=>whnf);first|refine zA ?_|refine zO ?_|refine Ob.auto ?_|(refine Ob.intro (by (first|exact ⟨by omega,by omega⟩|exact fun h=>⟨h,by show (-9223372036854775808:Int)≤_;omega,by show _≤(9223372036854775807:Int);omega⟩)) ?_)|refine zC 300 (hv) ?_|refine zG 300 (fun hg=>hv) ?_|(refine CallY.con (hv) (by rfl) leA ?_)|(refine CallZ.con (fun hg=>hv) qf (by rfl) ?_)|(refine qh (fun _=>rfl) 300 (hv) qc (by (repeat' (first|exact trivial|exact Le.refl _|(refine And.intro ?_ ?_))) <;> fail) (by rfl) (by kernel_rfl) ?_)|(refine qi (fun _=>rfl) 300 (fun hg=>hv) (fun hg=>qc) (fun hg=>(by (repeat' (first|exact trivial|exact Le.refl _|exact Le.cnd hg|(refine And.intro ?_ ?_))) <;> fail)) (by rfl) (by kernel_rfl) ?_)|refine zD 300 ?_|(apply zB <;> intro hb <;> (try simp [-zd] at hb) <;> try (exfalso;omega))|refine Ob.intro ?_ ?_))
  rw [hb];exact Le.refl _
end Go.Proofs.Ytkhdldncbmkidaa
end
section
namespace Go.Proofs.Ytkhdldncbmkidaa
open Go Go.Sx Go.RowKit
set_option maxRecDepth 100000
section
variable {H:Type} {enc:TypeId × Value→H}
theorem jei:Rdr enc Try.prog 38 (fun ys=>∃ l:List Bool,(l.length≤maxLen∧∀ r∈l,True)∧ys=[qar l]):=
 qoe (en:=fun b=>[.bool b]) Try.underlying38 (by kernel_rfl) (by decide) (fun _=>rfl) (jao Try.underlying4)
theorem jej:Rdr enc Try.prog 22 (fun ys=>∃ l:List (List Int),(l.length≤maxLen∧∀ r∈l,r.length≤maxLen)∧ys=[qae l]):=
 qoe (en:=fun l=>[ints l]) Try.underlying22 (by kernel_rfl) (by decide) (fun _=>rfl) (rdr_ints.mono fun ys ⟨l,h1,h⟩=>⟨l,h1.1,h⟩)
end
end Go.Proofs.Ytkhdldncbmkidaa
end
section
namespace Go.Ru
section
variable {α:Type} (neg:α→α)
inductive Der (cs:List (List α)) (so:List α):α→Prop
 | base {l:α} (h:l∈so):Der cs so l
 | unit {c:List α} {l:α} (hc:c∈cs) (hl:l∈c) (h:∀ m,m∈c→m≠l→Der cs so (neg m)):Der cs so l
def Bad (cs:List (List α)) (so:List α):Prop:=(∃ l,Der neg cs so l∧Der neg cs so (neg l))∨∃ c∈cs,∀ m∈c,Der neg cs so (neg m)
variable {neg}
theorem Der.mono {cs cs':List (List α)} {so so':List α} (hc:∀ c∈cs,∃ c'∈cs',∀ x,x∈c'↔x∈c) (hs:∀ l∈so,Der neg cs' so' l) {l:α} (h:Der neg cs so l):Der neg cs' so' l:=by
 induction h with
 | base h=>exact hs _ h
 | unit h1 h2 _ ih=>
  obtain ⟨c',h4,h5⟩:=hc _ h1
  exact .unit h4 ((h5 _).2 h2) fun m hm hne=>ih m ((h5 _).1 hm) hne
theorem Bad.mono {cs cs':List (List α)} {so so':List α} (hc:∀ c∈cs,∃ c'∈cs',∀ x,x∈c'↔x∈c) (hs:∀ l∈so,Der neg cs' so' l) (h:Bad neg cs so):Bad neg cs' so':=by
 rcases h with ⟨l,h1,h2⟩|⟨c,h1,h2⟩
 ·exact .inl ⟨l,h1.mono hc hs,h2.mono hc hs⟩
 ·obtain ⟨c',h4,h5⟩:=hc _ h1
  exact .inr ⟨c',h4,fun m hm=>(h2 m ((h5 _).1 hm)).mono hc hs⟩
theorem qup (cs:List (List α)):∀ c∈cs,∃ c'∈cs,∀ x,x∈c'↔x∈c:=fun c h=>⟨c,h,fun _=>Iff.rfl⟩
theorem quq {cs cs':List (List α)} (hs:∀ c∈cs,c∈cs'):∀ c∈cs,∃ c'∈cs',∀ x,x∈c'↔x∈c:=fun c h=>⟨c,hs c h,fun _=>Iff.rfl⟩
theorem Der.sub {cs cs':List (List α)} {so so':List α} (hc:∀ c∈cs,c∈cs') (hs:∀ l∈so,l∈so') {l:α} (h:Der neg cs so l):Der neg cs' so' l:=
 h.mono (quq hc) fun l hl=>.base (hs l hl)
theorem Bad.sub {cs cs':List (List α)} {so so':List α} (hc:∀ c∈cs,c∈cs') (hs:∀ l∈so,l∈so') (h:Bad neg cs so):Bad neg cs' so':=
 h.mono (quq hc) fun l hl=>.base (hs l hl)
theorem Bad.cut {cs:List (List α)} {so so':List α} (hs:∀ l∈so',Der neg cs so l) (h:Bad neg cs so'):Bad neg cs so:=h.mono (qup cs) hs
structure Closed (neg:α→α) (cs:List (List α)) (T:α→Prop):Prop where
 cons:∀ l,T l→¬ T (neg l)
 ok:∀ c∈cs,(∃ l∈c,T l)∨∃ a∈c,∃ b∈c,a≠b∧¬ T (neg a)∧¬ T (neg b)
theorem Der.closed {cs:List (List α)} {so:List α} {T:α→Prop} (hT:Closed neg cs T) (hs:∀ l∈so,T l) {l:α} (h:Der neg cs so l):T l:=by
 induction h with
 | base h=>exact hs _ h
 | @unit c l h1 h2 _ ih=>
  rcases hT.ok c h1 with ⟨k,hk,hTk⟩|⟨a,ha,b,hb,hab,h3,h4⟩
  ·refine Classical.byContradiction fun hn=>?_
   have hne:k≠l:=fun e=>hn (e ▸ hTk)
   exact hT.cons k hTk (ih k hk hne)
  ·refine Classical.byContradiction fun hn=>?_
   by_cases hal:a=l
   ·exact h4 (ih b hb (fun e=>hab (hal.trans e.symm)))
   ·exact h3 (ih a ha hal)
theorem qur {cs:List (List α)} {so:List α} {T:α→Prop} (hT:Closed neg cs T) (hs:∀ l∈so,T l):¬ Bad neg cs so:=by
 rintro (⟨l,h1,h2⟩|⟨c,h1,h2⟩)
 ·exact hT.cons l (h1.closed hT hs) (h2.closed hT hs)
 ·rcases hT.ok c h1 with ⟨k,hk,hTk⟩|⟨a,ha,b,hb,hab,h3,h4⟩
  ·exact hT.cons k hTk ((h2 k hk).closed hT hs)
  ·exact h3 ((h2 a ha).closed hT hs)
theorem Bad.drop (hnn:∀ l,neg (neg l)=l) {cs cs':List (List α)} {so:List α} (hne:∀ c∈cs,∀ x∈c,neg x≠x) (hc:∀ c∈cs,(∃ c'∈cs',∀ x,x∈c'↔x∈c)∨∃ l∈c,neg l∈c) (h:Bad neg cs so):Bad neg cs' so:=by
 refine Classical.byContradiction fun hn=>?_
 have key:∀ l,Der neg cs so l→Der neg cs' so l:=by
  intro l hl
  induction hl with
  | base h=>exact .base h
  | @unit c l h1 h2 _ ih=>
   rcases hc c h1 with ⟨c',h4,h5⟩|⟨k,h4,h5⟩
   ·exact .unit h4 ((h5 _).2 h2) fun m hm hml=>ih m ((h5 _).1 hm) hml
   ·by_cases hk:k=l
    ·subst hk
     have:=ih _ h5 (hne c h1 _ h2)
     rwa [hnn] at this
    ·by_cases hk2:neg k=l
     ·subst hk2
      exact ih k h4 hk
     ·have a1:=ih k h4 hk
      have a2:=ih _ h5 hk2
      exact (hn (.inl ⟨_,a1,a2⟩)).elim
 rcases h with ⟨l,h1,h2⟩|⟨c,h1,h2⟩
 ·exact hn (.inl ⟨l,key _ h1,key _ h2⟩)
 ·rcases hc c h1 with ⟨c',h4,h5⟩|⟨k,h4,h5⟩
  ·exact hn (.inr ⟨c',h4,fun m hm=>key _ (h2 m ((h5 _).1 hm))⟩)
  ·exact hn (.inl ⟨_,key _ (h2 k h4),key _ (h2 _ h5)⟩)
end
theorem Der.map {α β:Type} {neg:α→α} {neg':β→β} (f:α→β) (hf:∀ a,f (neg a)=neg' (f a)) {cs:List (List α)} {so:List α} {l:α} (h:Der neg cs so l):Der neg' (cs.map (List.map f)) (so.map f) (f l):=by
 induction h with
 | base h=>exact .base (zy h)
 | @unit c l h1 h2 _ ih=>
  refine .unit (zy h1) (zy h2) fun m hm hne=>?_
  obtain ⟨k,hk,rfl⟩:=List.mem_map.1 hm
  rw [← hf]
  exact ih k hk fun e=>hne (e ▸ rfl)
theorem Der.unmap {α β:Type} {neg:α→α} {neg':β→β} (f:α→β) (hf:∀ a,f (neg a)=neg' (f a)) (hi:∀ a b,f a=f b→a=b) {cs:List (List α)} {so:List α} {l:β} (h:Der neg' (cs.map (List.map f)) (so.map f) l):∃ x,f x=l∧Der neg cs so x:=by
 induction h with
 | base h=>
  obtain ⟨x,hx,rfl⟩:=List.mem_map.1 h
  exact ⟨x,rfl,.base hx⟩
 | @unit c l h1 h2 _ ih=>
  obtain ⟨c0,hc,rfl⟩:=List.mem_map.1 h1
  obtain ⟨x,hx,rfl⟩:=List.mem_map.1 h2
  refine ⟨x,rfl,.unit hc hx fun m hm hne=>?_⟩
  obtain ⟨y,hy,hd⟩:=ih (f m) (zy hm) fun e=>hne (hi _ _ e)
  rw [← hf] at hy
  exact hi _ _ hy ▸ hd
theorem Bad.map {α β:Type} {neg:α→α} {neg':β→β} (f:α→β) (hf:∀ a,f (neg a)=neg' (f a)) (hi:∀ a b,f a=f b→a=b) {cs:List (List α)} {so:List α}:Bad neg' (cs.map (List.map f)) (so.map f)↔Bad neg cs so:=by
 constructor
 ·rintro (⟨l,h1,h2⟩|⟨c,h1,h2⟩)
  ·obtain ⟨x,rfl,hx⟩:=h1.unmap f hf hi
   obtain ⟨y,hy,hd⟩:=h2.unmap f hf hi
   rw [← hf] at hy
   exact .inl ⟨x,hx,hi _ _ hy ▸ hd⟩
  ·obtain ⟨c0,hc,rfl⟩:=List.mem_map.1 h1
   refine .inr ⟨c0,hc,fun m hm=>?_⟩
   obtain ⟨y,hy,hd⟩:=(h2 (f m) (zy hm)).unmap f hf hi
   rw [← hf] at hy
   exact hi _ _ hy ▸ hd
 ·rintro (⟨l,h1,h2⟩|⟨c,h1,h2⟩)
  ·exact .inl ⟨f l,h1.map f hf,hf l ▸ h2.map f hf⟩
  ·refine .inr ⟨c.map f,zy h1,fun m hm=>?_⟩
   obtain ⟨k,hk,rfl⟩:=List.mem_map.1 hm
   rw [← hf]
   exact (h2 k hk).map f hf
end Go.Ru
end
