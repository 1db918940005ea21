/- Some texts of the library, one behind the other. -/
import Derived.Test.YtkhdldncbmkidaaY44
import Derived.Test.YtkhdldncbmkidaaY42
set_option linter.unusedSimpArgs false
set_option linter.unusedVariables false
section
namespace Go.Ru
section
variable {α:Type} (neg:α→α)
inductive Der (cs:List (List α)) (so:List α):α→Prop
 | base {l:α} (h:l∈so):Der cs so l
 | unit {c:List α} {l:α} (hc:c∈cs) (hl:l∈c) (h:∀ m,m∈c→m≠l→Der cs so (neg m)):Der cs so l
def Bad (cs:List (List α)) (so:List α):Prop:=(∃ l,Der neg cs so l∧Der neg cs so (neg l))∨∃ c∈cs,∀ m∈c,Der neg cs so (neg m)
variable {neg}
theorem Der.mono {cs cs':List (List α)} {so so':List α} (hc:∀ c∈cs,∃ c'∈cs',∀ x,x∈c'↔x∈c) (hs:∀ l∈so,Der neg cs' so' l) {l:α} (h:Der neg cs so l):Der neg cs' so' l:=by
 induction h with
 | base h=>exact hs _ h
 | unit h1 h2 _ ih=>
  obtain ⟨c',h4,h5⟩:=hc _ h1
  exact .unit h4 ((h5 _).2 h2) fun m hm hne=>ih m ((h5 _).1 hm) hne
theorem Bad.mono {cs cs':List (List α)} {so so':List α} (hc:∀ c∈cs,∃ c'∈cs',∀ x,x∈c'↔x∈c) (hs:∀ l∈so,Der neg cs' so' l) (h:Bad neg cs so):Bad neg cs' so':=by
 rcases h with ⟨l,h1,h2⟩|⟨c,h1,h2⟩
 ·exact .inl ⟨l,h1.mono hc hs,h2.mono hc hs⟩
 ·obtain ⟨c',h4,h5⟩:=hc _ h1
  exact .inr ⟨c',h4,fun m hm=>(h2 m ((h5 _).1 hm)).mono hc hs⟩
theorem qut (cs:List (List α)):∀ c∈cs,∃ c'∈cs,∀ x,x∈c'↔x∈c:=fun c h=>⟨c,h,fun _=>Iff.rfl⟩
theorem quu {cs cs':List (List α)} (hs:∀ c∈cs,c∈cs'):∀ c∈cs,∃ c'∈cs',∀ x,x∈c'↔x∈c:=fun c h=>⟨c,hs c h,fun _=>Iff.rfl⟩
theorem Der.sub {cs cs':List (List α)} {so so':List α} (hc:∀ c∈cs,c∈cs') (hs:∀ l∈so,l∈so') {l:α} (h:Der neg cs so l):Der neg cs' so' l:=
 h.mono (quu hc) fun l hl=>.base (hs l hl)
theorem Bad.sub {cs cs':List (List α)} {so so':List α} (hc:∀ c∈cs,c∈cs') (hs:∀ l∈so,l∈so') (h:Bad neg cs so):Bad neg cs' so':=
 h.mono (quu hc) fun l hl=>.base (hs l hl)
theorem Bad.cut {cs:List (List α)} {so so':List α} (hs:∀ l∈so',Der neg cs so l) (h:Bad neg cs so'):Bad neg cs so:=h.mono (qut cs) hs
structure Closed (neg:α→α) (cs:List (List α)) (T:α→Prop):Prop where
 cons:∀ l,T l→¬ T (neg l)
 ok:∀ c∈cs,(∃ l∈c,T l)∨∃ a∈c,∃ b∈c,a≠b∧¬ T (neg a)∧¬ T (neg b)
theorem Der.closed {cs:List (List α)} {so:List α} {T:α→Prop} (hT:Closed neg cs T) (hs:∀ l∈so,T l) {l:α} (h:Der neg cs so l):T l:=by
 induction h with
 | base h=>exact hs _ h
 | @unit c l h1 h2 _ ih=>
  rcases hT.ok c h1 with ⟨k,hk,hTk⟩|⟨a,ha,b,hb,hab,h3,h4⟩
  ·refine Classical.byContradiction fun hn=>?_
   have hne:k≠l:=fun e=>hn (e ▸ hTk)
   exact hT.cons k hTk (ih k hk hne)
  ·refine Classical.byContradiction fun hn=>?_
   by_cases hal:a=l
   ·exact h4 (ih b hb (fun e=>hab (hal.trans e.symm)))
   ·exact h3 (ih a ha hal)
theorem quv {cs:List (List α)} {so:List α} {T:α→Prop} (hT:Closed neg cs T) (hs:∀ l∈so,T l):¬ Bad neg cs so:=by
 rintro (⟨l,h1,h2⟩|⟨c,h1,h2⟩)
 ·exact hT.cons l (h1.closed hT hs) (h2.closed hT hs)
 ·rcases hT.ok c h1 with ⟨k,hk,hTk⟩|⟨a,ha,b,hb,hab,h3,h4⟩
  ·exact hT.cons k hTk ((h2 k hk).closed hT hs)
  ·exact h3 ((h2 a ha).closed hT hs)
theorem Bad.drop (hnn:∀ l,neg (neg l)=l) {cs cs':List (List α)} {so:List α} (hne:∀ c∈cs,∀ x∈c,neg x≠x) (hc:∀ c∈cs,(∃ c'∈cs',∀ x,x∈c'↔x∈c)∨∃ l∈c,neg l∈c) (h:Bad neg cs so):Bad neg cs' so:=by
 refine Classical.byContradiction fun hn=>?_
 have key:∀ l,Der neg cs so l→Der neg cs' so l:=by
  intro l hl
  induction hl with
  | base h=>exact .base h
  | @unit c l h1 h2 _ ih=>
   rcases hc c h1 with ⟨c',h4,h5⟩|⟨k,h4,h5⟩
   ·exact .unit h4 ((h5 _).2 h2) fun m hm hml=>ih m ((h5 _).1 hm) hml
   ·by_cases hk:k=l
    ·subst hk
     have:=ih _ h5 (hne c h1 _ h2)
     rwa [hnn] at this
    ·by_cases hk2:neg k=l
     ·subst hk2
      exact ih k h4 hk
     ·have a1:=ih k h4 hk
      have a2:=ih _ h5 hk2
      exact (hn (.inl ⟨_,a1,a2⟩)).elim
 rcases h with ⟨l,h1,h2⟩|⟨c,h1,h2⟩
 ·exact hn (.inl ⟨l,key _ h1,key _ h2⟩)
 ·rcases hc c h1 with ⟨c',h4,h5⟩|⟨k,h4,h5⟩
  ·exact hn (.inr ⟨c',h4,fun m hm=>key _ (h2 m ((h5 _).1 hm))⟩)
  ·exact hn (.inl ⟨_,key _ (h2 k h4),key _ (h2 _ h5)⟩)
end
theorem Der.map {α β:Type} {neg:α→α} {neg':β→β} (f:α→β) (hf:∀ a,f (neg a)=neg' (f a)) {cs:List (List α)} {so:List α} {l:α} (h:Der neg cs so l):Der neg' (cs.map (List.map f)) (so.map f) (f l):=by
 induction h with
 | base h=>exact .base (zy h)
 | @unit c l h1 h2 _ ih=>
  refine .unit (zy h1) (zy h2) fun m hm hne=>?_
  obtain ⟨k,hk,rfl⟩:=List.mem_map.1 hm
  rw [← hf]
  exact ih k hk fun e=>hne (e ▸ rfl)
theorem Der.unmap {α β:Type} {neg:α→α} {neg':β→β} (f:α→β) (hf:∀ a,f (neg a)=neg' (f a)) (hi:∀ a b,f a=f b→a=b) {cs:List (List α)} {so:List α} {l:β} (h:Der neg' (cs.map (List.map f)) (so.map f) l):∃ x,f x=l∧Der neg cs so x:=by
 induction h with
 | base h=>
  obtain ⟨x,hx,rfl⟩:=List.mem_map.1 h
  exact ⟨x,rfl,.base hx⟩
 | @unit c l h1 h2 _ ih=>
  obtain ⟨c0,hc,rfl⟩:=List.mem_map.1 h1
  obtain ⟨x,hx,rfl⟩:=List.mem_map.1 h2
  refine ⟨x,rfl,.unit hc hx fun m hm hne=>?_⟩
  obtain ⟨y,hy,hd⟩:=ih (f m) (zy hm) fun e=>hne (hi _ _ e)
  rw [← hf] at hy
  exact hi _ _ hy ▸ hd
theorem Bad.map {α β:Type} {neg:α→α} {neg':β→β} (f:α→β) (hf:∀ a,f (neg a)=neg' (f a)) (hi:∀ a b,f a=f b→a=b) {cs:List (List α)} {so:List α}:Bad neg' (cs.map (List.map f)) (so.map f)↔Bad neg cs so:=by
 constructor
 ·rintro (⟨l,h1,h2⟩|⟨c,h1,h2⟩)
  ·obtain ⟨x,rfl,hx⟩:=h1.unmap f hf hi
   obtain ⟨y,hy,hd⟩:=h2.unmap f hf hi
   rw [← hf] at hy
   exact .inl ⟨x,hx,hi _ _ hy ▸ hd⟩
  ·obtain ⟨c0,hc,rfl⟩:=List.mem_map.1 h1
   refine .inr ⟨c0,hc,fun m hm=>?_⟩
   obtain ⟨y,hy,hd⟩:=(h2 (f m) (zy hm)).unmap f hf hi
   rw [← hf] at hy
   exact hi _ _ hy ▸ hd
 ·rintro (⟨l,h1,h2⟩|⟨c,h1,h2⟩)
  ·exact .inl ⟨f l,h1.map f hf,hf l ▸ h2.map f hf⟩
  ·refine .inr ⟨c.map f,zy h1,fun m hm=>?_⟩
   obtain ⟨k,hk,rfl⟩:=List.mem_map.1 hm
   rw [← hf]
   exact (h2 k hk).map f hf
def ng (x:Nat):Nat:=x ^^^ 1
theorem qdq (x:Nat):ng (ng x)=x:=by unfold ng;rw [Nat.xor_assoc,Nat.xor_self,Nat.xor_zero]
theorem qin (x:Nat):ng x≠x:=fun h=>by
 have h2:x ^^^ (x ^^^ 1)=x ^^^ x:=congrArg (x ^^^ ·) h
 rw [← Nat.xor_assoc,Nat.xor_self,Nat.zero_xor] at h2
 cases h2
theorem qlg (x:Nat):ng x / 2=x / 2:=by
 unfold ng
 rw [Nat.xor_div_two]
 simp
theorem quw (x:Nat):ng x=if x % 2=0 then x+1 else x - 1:=by
 have h1:=qlg x
 have h2:=qin x
 split <;> omega
theorem qlh {x n:Nat} (h:x<2 * n):ng x<2 * n:=by
 have:=qlg x
 omega
theorem qpc {x y:Nat} (h:x / 2=y / 2):x=y∨x=ng y:=by
 have h1:=qlg y
 have h2:=qin y
 omega
structure K where
 lits:List (List Nat)
 gone:List Bool
 keys:List (List UInt8 × Nat)
 pm:List (List Nat)
 pe:Nat→Nat
 watch:List (List Nat)
 we:Nat→Nat
 val:List Int
 rea:List Int
 trail:List Nat
 te:Nat
 head:Nat
 units:List Nat
 ue:Nat
 empty:Int
 broken:Bool
 stale:Bool
def K.set (k:K) (x:Nat) (r:Int):K:={ k with val:=(k.val.set x 1).set (ng x) (-1),rea:=k.rea.set (x / 2) r,trail:=k.trail++[x] }
def qbu (val:List Int):List Nat→List Int
 | []=>val
 | x::r=>qbu ((val.set x 0).set (ng x) 0) r
def qbm (rea:List Int):List Nat→List Int
 | []=>rea
 | x::r=>qbm (rea.set (x / 2) (-1)) r
def K.undo (k:K) (n:Nat):K:={ k with val:=qbu k.val (k.trail.drop n),rea:=qbm k.rea (k.trail.drop n),trail:=k.trail.take n,te:=k.te+1,head:=n }
def lit (k:K) (n:Nat):List Nat:=k.lits.getD n []
def vl (k:K) (x:Nat):Int:=k.val.getD x 0
def swap (l:List Nat) (i j:Nat):List Nat:=(l.set i (l.getD j 0)).set j (l.getD i 0)
def jy (val:List Int) (c:List Nat):Option Nat:=(List.range c.length).find? fun i=>decide (2≤i∧0≤val.getD (c.getD i 0) 0)
theorem jfa {val:List Int} {c:List Nat} {i:Nat} (h1:i<c.length) (h2:2≤i) (h3:0≤val.getD (c.getD i 0) 0) (h4:∀ j,2≤j→j<i→val.getD (c.getD j 0) 0<0):jy val c=some i:=by
 unfold jy
 rw [List.find?_range_eq_some]
 refine ⟨zam ⟨h2,h3⟩,List.mem_range.2 h1,fun j hj=>?_⟩
 rw [xn,decide_eq_false_iff_not]
 rintro ⟨h5,h6⟩
 have:=h4 j h5 hj
 omega
theorem jfb {val:List Int} {c:List Nat} (h4:∀ j,2≤j→j<c.length→val.getD (c.getD j 0) 0<0):jy val c=none:=by
 unfold jy
 rw [List.find?_eq_none]
 intro j hj h
 have h:=xx h
 have:=h4 j h.1 (List.mem_range.1 hj)
 omega
theorem qli {val:List Int} {c:List Nat} {i:Nat} (h:jy val c=some i):i<c.length∧2≤i∧0≤val.getD (c.getD i 0) 0∧∀ j,2≤j→j<i→val.getD (c.getD j 0) 0<0:=by
 unfold jy at h
 rw [List.find?_range_eq_some] at h
 obtain ⟨h1,h2,h3⟩:=h
 have h1:=xx h1
 refine ⟨List.mem_range.1 h2,h1.1,h1.2,fun j hj hji=>?_⟩
 have:=h3 j hji
 rw [xn,decide_eq_false_iff_not] at this
 refine Int.not_le.1 fun h=>this ⟨hj,h⟩
theorem qux {val:List Int} {c:List Nat} (h:jy val c=none):∀ j,2≤j→j<c.length→val.getD (c.getD j 0) 0<0:=by
 intro j h1 h2
 unfold jy at h
 rw [List.find?_eq_none] at h
 have:=h j (List.mem_range.2 h2)
 rw [xm] at this
 exact Int.not_le.1 fun h=>this ⟨h1,h⟩
def K.other (k:K) (n:Nat):K × Bool:=
 match jy k.val (lit k n) with
 | none=>(k,false)
 | some i=>
  let y:=(lit k n).getD i 0
  ({ k with lits:=k.lits.set n (swap (lit k n) 1 i),watch:=k.watch.set y (k.watch.getD y []++[n]) },true)
def turnL (c:List Nat) (x:Nat):List Nat:=if c.getD 0 0=x then swap c 0 1 else c
def K.turn (k:K) (n x:Nat):K:={ k with lits:=k.lits.set n (turnL (lit k n) x) }
def qb (x:Nat) (list:List Nat) (k0:K):Nat→K × List Nat
 | 0=>(k0,[])
 | i+1=>
  if (qb x list k0 i).1.gone.getD (list.getD i 0) false then qb x list k0 i
  else if vl ((qb x list k0 i).1.turn (list.getD i 0) x) ((lit ((qb x list k0 i).1.turn (list.getD i 0) x) (list.getD i 0)).getD 0 0)≤0 then
   if (((qb x list k0 i).1.turn (list.getD i 0) x).other (list.getD i 0)).2 then ((((qb x list k0 i).1.turn (list.getD i 0) x).other (list.getD i 0)).1,(qb x list k0 i).2)
   else (((qb x list k0 i).1.turn (list.getD i 0) x).set ((lit ((qb x list k0 i).1.turn (list.getD i 0) x) (list.getD i 0)).getD 0 0) (list.getD i 0),(qb x list k0 i).2++[list.getD i 0])
  else ((qb x list k0 i).1.turn (list.getD i 0) x,(qb x list k0 i).2++[list.getD i 0])
def qbn (x n:Nat) (k:K):Bool:=!(k.gone.getD n false) && (decide (vl (k.turn n x) ((lit (k.turn n x) n).getD 0 0)<0) && !((k.turn n x).other n).2)
def bump (f:Nat→Nat) (x:Nat):Nat→Nat:=fun j=>if j=x then f j+1 else f j
def K.visit (k:K) (x:Nat):K × Bool:=
 match (List.range (k.watch.getD x []).length).find? fun i=>qbn x ((k.watch.getD x []).getD i 0) (qb x (k.watch.getD x []) k i).1 with
 | none=>
  let p:=qb x (k.watch.getD x []) k (k.watch.getD x []).length
  ({ p.1 with watch:=p.1.watch.set x p.2,we:=bump p.1.we x },true)
 | some i=>
  let p:=qb x (k.watch.getD x []) k i
  let k1:=p.1.turn ((k.watch.getD x []).getD i 0) x
  ({ k1 with watch:=k1.watch.set x (p.2++(k.watch.getD x []).drop i),we:=bump k1.we x },false)
def qai:Nat→K→K × Bool
 | 0,k=>(k,true)
 | f+1,k=>
  if k.head<k.trail.length then
   let o:=({ k with head:=k.head+1 }:K).visit (ng (k.trail.getD k.head 0))
   if o.2 then qai f o.1 else (o.1,false)
  else (k,true)
def K.prop (k:K):K × Bool:=qai (k.val.length+1 - k.head) k
def jr:List Nat→K→List Nat→K × List Nat
 | [],k,us=>(k,us)
 | n::r,k,us=>
  if k.gone.getD n false then jr r k us
  else
   let x:=(lit k n).getD 0 0
   let k1:=if vl k x<0 then { k with broken:=true } else if vl k x=0 then k.set x n else k
   jr r k1 (us++[n])
def K.zero (k:K):K:={ k.undo 0 with stale:=false,broken:=false }
def K.mid (k:K):K:={ (jr k.units k.zero []).1 with units:=(jr k.units k.zero []).2,ue:=(jr k.units k.zero []).1.ue+1 }
def K.refresh (k:K):K:=if k.stale then (if k.mid.broken then k.mid else { k.mid.prop.1 with broken:=!k.mid.prop.2 }) else k
def K.grow (k:K) (v:Nat):K:=
  if k.val.length<2 * v+2 then
    { k with val := k.val ++ List.replicate (2 * v + 2 - k.val.length) 0, watch := k.watch ++ List.replicate (2 * v + 2 - k.val.length) [], we := fun j => if j < k.watch.length then k.we j else 0,
             rea:=k.rea++List.replicate (v+1 - k.rea.length) (-1) }
  else k
def qn (val:List Int) (c:List Nat):Nat→Nat × List Nat
 | 0=>(0,c)
 | i+1=>if (qn val c i).1<2∧0≤val.getD ((qn val c i).2.getD i 0) 0 then ((qn val c i).1+1,swap (qn val c i).2 (qn val c i).1 i) else qn val c i
def qae (val:List Int) (c:List Nat):List Nat:=(qn val c c.length).2
end Go.Ru
end
