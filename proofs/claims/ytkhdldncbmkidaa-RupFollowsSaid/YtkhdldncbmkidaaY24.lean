/- Some texts of the library, one behind the other. -/
import Derived.Test.YtkhdldncbmkidaaY23
import Derived.Test.YtkhdldncbmkidaaY22
import Derived.Test.YtkhdldncbmkidaaChecked
set_option linter.unusedSimpArgs false
set_option linter.unusedVariables false
section
namespace Go.Proofs.Ytkhdldncbmkidaa
open List renaming getD_eq_getElem?_getD → zd
open Go Go.Sx Go.RowKit Go.St Go.Cl
set_option maxRecDepth 100000
set_option maxHeartbeats 4000000
def qah (cs:List (List Int)):AV:=slcL (fun l=>[ints l]) [] 1 cs
theorem jeq {α:Type} (q:α→Bool) (l:List α):(l.all q)=!(l.any fun x=>!q x):=by
 induction l with
 | nil=>rfl
 | cons x l ih=>rw [List.all_cons,List.any_cons,ih,Bool.not_or,Bool.not_not]
theorem qug {α:Type} (q:α→Bool) (l:List α):decide (0≤Go.St.idx q l)=l.any q:=by
 unfold Go.St.idx
 cases h:l.findIdx? q with
 | none=>
  rw [List.findIdx?_eq_none_iff] at h
  have:l.any q=false:=by rw [zbm];intro h';rw [zas] at h';obtain ⟨x,hx,hq⟩:=h';rw [h x hx] at hq;cases hq
  rw [this];rfl
 | some i=>
  rw [List.findIdx?_eq_some_iff_getElem] at h
  obtain ⟨h1,h2,_⟩:=h
  have:l.any q=true:=by rw [zas];exact ⟨_,zat h1,h2⟩
  rw [this];exact xx (by simp)
theorem qfs (l:Int):Con Try.prog 57 [iv l] (.bool (litB l)):=by
 refine zK {} 300 Try.func57 (fun c0 rdb=>?_)
 (repeat' ((conv=>whnf);first|refine zA ?_|refine zO ?_|refine Ob.auto ?_|refine zD 300 ?_|(apply zB <;> intro hb <;> (try simp [-zd] at hb) <;> try (exfalso;omega))|refine Ob.intro ?_ ?_))
 exact Le.refl _
theorem jer (l:Int) (h:litB l=true):Con Try.prog 48 [iv l] (iv (absI l)):=by
 have h:=(qag l).1 h
 refine zK {} 300 Try.func48 (fun c0 rdb=>?_)
 (repeat' ((conv=>whnf);first|refine zA ?_|refine zO ?_|refine Ob.auto ?_|refine zI ?_|refine zD 300 ?_|(apply zB <;> intro hb <;> (try simp [-zd] at hb) <;> try (exfalso;omega))|refine Ob.intro ?_ ?_))
 all_goals (refine Le.of_eq (congrArg (AV.int _) ?_);unfold absI;omega)
theorem jes (l:Int):Con Try.prog 59 [iv l] (.bool (!litB l)):=by
 refine zK {} 300 Try.func59 (fun c0 rdb=>?_)
 (repeat' ((conv=>whnf);first|refine zA ?_|refine zO ?_|refine Ob.auto ?_|refine zC 300 (qfs l) ?_|refine zG 300 (fun hg=>qfs l) ?_|(refine CallY.con (qfs l) (by rfl) leA ?_)|(refine CallZ.con (fun hg=>qfs l) qf (by rfl) ?_)|(refine qh (fun _=>rfl) 300 (qfs l) qd (by (repeat' (first|exact trivial|exact Le.refl _|(refine And.intro ?_ ?_))) <;> fail) (by rfl) (by kernel_rfl) ?_)|(refine qi (fun _=>rfl) 300 (fun hg=>qfs l) (fun hg=>qd) (fun hg=>(by (repeat' (first|exact trivial|exact Le.refl _|exact Le.cnd hg|(refine And.intro ?_ ?_))) <;> fail)) (by rfl) (by kernel_rfl) ?_)|refine zD 300 ?_|(apply zB <;> intro hb <;> (try simp [-zd] at hb) <;> try (exfalso;omega))|refine Ob.intro ?_ ?_))
 exact Le.refl _
end Go.Proofs.Ytkhdldncbmkidaa
end
section
namespace Go.Proofs.Ytkhdldncbmkidaa
open Go Go.Sx Go.RowKit
set_option maxRecDepth 100000
section
variable {H:Type} {enc:TypeId × Value→H}
theorem jet:Rdr enc Try.prog 22 (fun ys=>∃ l:List (List Int),(l.length≤maxLen∧∀ r∈l,r.length≤maxLen)∧ys=[qah l]):=
 qsn (en:=fun l=>[ints l]) Try.underlying22 (by kernel_rfl) (by decide) (fun _=>rfl) (rdr_ints.mono fun ys ⟨l,h1,h⟩=>⟨l,h1.1,h⟩)
end
end Go.Proofs.Ytkhdldncbmkidaa
end
section
namespace Go.Ru
section
variable {α:Type} (neg:α→α)
inductive Der (cs:List (List α)) (so:List α):α→Prop
 | base {l:α} (h:l∈so):Der cs so l
 | unit {c:List α} {l:α} (hc:c∈cs) (hl:l∈c) (h:∀ m,m∈c→m≠l→Der cs so (neg m)):Der cs so l
def Bad (cs:List (List α)) (so:List α):Prop:=(∃ l,Der neg cs so l∧Der neg cs so (neg l))∨∃ c∈cs,∀ m∈c,Der neg cs so (neg m)
variable {neg}
theorem Der.mono {cs cs':List (List α)} {so so':List α} (hc:∀ c∈cs,∃ c'∈cs',∀ x,x∈c'↔x∈c) (hs:∀ l∈so,Der neg cs' so' l) {l:α} (h:Der neg cs so l):Der neg cs' so' l:=by
 induction h with
 | base h=>exact hs _ h
 | unit h1 h2 _ ih=>
  obtain ⟨c',h4,h5⟩:=hc _ h1
  exact .unit h4 ((h5 _).2 h2) fun m hm hne=>ih m ((h5 _).1 hm) hne
theorem Bad.mono {cs cs':List (List α)} {so so':List α} (hc:∀ c∈cs,∃ c'∈cs',∀ x,x∈c'↔x∈c) (hs:∀ l∈so,Der neg cs' so' l) (h:Bad neg cs so):Bad neg cs' so':=by
 rcases h with ⟨l,h1,h2⟩|⟨c,h1,h2⟩
 ·exact .inl ⟨l,h1.mono hc hs,h2.mono hc hs⟩
 ·obtain ⟨c',h4,h5⟩:=hc _ h1
  exact .inr ⟨c',h4,fun m hm=>(h2 m ((h5 _).1 hm)).mono hc hs⟩
theorem quu (cs:List (List α)):∀ c∈cs,∃ c'∈cs,∀ x,x∈c'↔x∈c:=fun c h=>⟨c,h,fun _=>Iff.rfl⟩
theorem quv {cs cs':List (List α)} (hs:∀ c∈cs,c∈cs'):∀ c∈cs,∃ c'∈cs',∀ x,x∈c'↔x∈c:=fun c h=>⟨c,hs c h,fun _=>Iff.rfl⟩
theorem Der.sub {cs cs':List (List α)} {so so':List α} (hc:∀ c∈cs,c∈cs') (hs:∀ l∈so,l∈so') {l:α} (h:Der neg cs so l):Der neg cs' so' l:=
 h.mono (quv hc) fun l hl=>.base (hs l hl)
theorem Bad.sub {cs cs':List (List α)} {so so':List α} (hc:∀ c∈cs,c∈cs') (hs:∀ l∈so,l∈so') (h:Bad neg cs so):Bad neg cs' so':=
 h.mono (quv hc) fun l hl=>.base (hs l hl)
theorem Bad.cut {cs:List (List α)} {so so':List α} (hs:∀ l∈so',Der neg cs so l) (h:Bad neg cs so'):Bad neg cs so:=h.mono (quu cs) hs
structure Closed (neg:α→α) (cs:List (List α)) (T:α→Prop):Prop where
 cons:∀ l,T l→¬ T (neg l)
 ok:∀ c∈cs,(∃ l∈c,T l)∨∃ a∈c,∃ b∈c,a≠b∧¬ T (neg a)∧¬ T (neg b)
theorem Der.closed {cs:List (List α)} {so:List α} {T:α→Prop} (hT:Closed neg cs T) (hs:∀ l∈so,T l) {l:α} (h:Der neg cs so l):T l:=by
 induction h with
 | base h=>exact hs _ h
 | @unit c l h1 h2 _ ih=>
  rcases hT.ok c h1 with ⟨k,hk,hTk⟩|⟨a,ha,b,hb,hab,h3,h4⟩
  ·refine Classical.byContradiction fun hn=>?_
   have hne:k≠l:=fun e=>hn (e ▸ hTk)
   exact hT.cons k hTk (ih k hk hne)
  ·refine Classical.byContradiction fun hn=>?_
   by_cases hal:a=l
   ·exact h4 (ih b hb (fun e=>hab (hal.trans e.symm)))
   ·exact h3 (ih a ha hal)
theorem quw {cs:List (List α)} {so:List α} {T:α→Prop} (hT:Closed neg cs T) (hs:∀ l∈so,T l):¬ Bad neg cs so:=by
 rintro (⟨l,h1,h2⟩|⟨c,h1,h2⟩)
 ·exact hT.cons l (h1.closed hT hs) (h2.closed hT hs)
 ·rcases hT.ok c h1 with ⟨k,hk,hTk⟩|⟨a,ha,b,hb,hab,h3,h4⟩
  ·exact hT.cons k hTk ((h2 k hk).closed hT hs)
  ·exact h3 ((h2 a ha).closed hT hs)
theorem Bad.drop (hnn:∀ l,neg (neg l)=l) {cs cs':List (List α)} {so:List α} (hne:∀ c∈cs,∀ x∈c,neg x≠x) (hc:∀ c∈cs,(∃ c'∈cs',∀ x,x∈c'↔x∈c)∨∃ l∈c,neg l∈c) (h:Bad neg cs so):Bad neg cs' so:=by
 refine Classical.byContradiction fun hn=>?_
 have key:∀ l,Der neg cs so l→Der neg cs' so l:=by
  intro l hl
  induction hl with
  | base h=>exact .base h
  | @unit c l h1 h2 _ ih=>
   rcases hc c h1 with ⟨c',h4,h5⟩|⟨k,h4,h5⟩
   ·exact .unit h4 ((h5 _).2 h2) fun m hm hml=>ih m ((h5 _).1 hm) hml
   ·by_cases hk:k=l
    ·subst hk
     have:=ih _ h5 (hne c h1 _ h2)
     rwa [hnn] at this
    ·by_cases hk2:neg k=l
     ·subst hk2
      exact ih k h4 hk
     ·have a1:=ih k h4 hk
      have a2:=ih _ h5 hk2
      exact (hn (.inl ⟨_,a1,a2⟩)).elim
 rcases h with ⟨l,h1,h2⟩|⟨c,h1,h2⟩
 ·exact hn (.inl ⟨l,key _ h1,key _ h2⟩)
 ·rcases hc c h1 with ⟨c',h4,h5⟩|⟨k,h4,h5⟩
  ·exact hn (.inr ⟨c',h4,fun m hm=>key _ (h2 m ((h5 _).1 hm))⟩)
  ·exact hn (.inl ⟨_,key _ (h2 k h4),key _ (h2 _ h5)⟩)
theorem Der.model {cs:List (List α)} {so:List α} {T:α→Prop} (hn:∀ c∈cs,∀ l∈c,T (neg l)→¬ T l) (hc:∀ c∈cs,∃ l∈c,T l) (hs:∀ l∈so,T l) {l:α} (h:Der neg cs so l):T l:=by
 induction h with
 | base h=>exact hs _ h
 | @unit c l h1 h2 _ ih=>
  obtain ⟨k,hk,hT⟩:=hc c h1
  by_cases hkl:k=l
  ·exact hkl ▸ hT
  ·exact absurd hT (hn c h1 k hk (ih k hk hkl))
theorem Bad.model {cs:List (List α)} {so:List α} {T:α→Prop} (hn:∀ l,T l→¬ T (neg l)) (hc:∀ c∈cs,∃ l∈c,T l) (hs:∀ l∈so,T l):¬ Bad neg cs so:=by
 have hn':∀ c∈cs,∀ l∈c,T (neg l)→¬ T l:=fun _ _ l _ h1 h2=>hn l h2 h1
 rintro (⟨l,h1,h2⟩|⟨c,h1,h2⟩)
 ·exact hn l (h1.model hn' hc hs) (h2.model hn' hc hs)
 ·obtain ⟨k,hk,hT⟩:=hc c h1
  exact hn k hT ((h2 k hk).model hn' hc hs)
end
theorem Der.map {α β:Type} {neg:α→α} {neg':β→β} (f:α→β) (hf:∀ a,f (neg a)=neg' (f a)) {cs:List (List α)} {so:List α} {l:α} (h:Der neg cs so l):Der neg' (cs.map (List.map f)) (so.map f) (f l):=by
 induction h with
 | base h=>exact .base (zz h)
 | @unit c l h1 h2 _ ih=>
  refine .unit (zz h1) (zz h2) fun m hm hne=>?_
  obtain ⟨k,hk,rfl⟩:=List.mem_map.1 hm
  rw [← hf]
  exact ih k hk fun e=>hne (e ▸ rfl)
theorem Der.unmap {α β:Type} {neg:α→α} {neg':β→β} (f:α→β) (hf:∀ a,f (neg a)=neg' (f a)) (hi:∀ a b,f a=f b→a=b) {cs:List (List α)} {so:List α} {l:β} (h:Der neg' (cs.map (List.map f)) (so.map f) l):∃ x,f x=l∧Der neg cs so x:=by
 induction h with
 | base h=>
  obtain ⟨x,hx,rfl⟩:=List.mem_map.1 h
  exact ⟨x,rfl,.base hx⟩
 | @unit c l h1 h2 _ ih=>
  obtain ⟨c0,hc,rfl⟩:=List.mem_map.1 h1
  obtain ⟨x,hx,rfl⟩:=List.mem_map.1 h2
  refine ⟨x,rfl,.unit hc hx fun m hm hne=>?_⟩
  obtain ⟨y,hy,hd⟩:=ih (f m) (zz hm) fun e=>hne (hi _ _ e)
  rw [← hf] at hy
  exact hi _ _ hy ▸ hd
theorem Bad.map {α β:Type} {neg:α→α} {neg':β→β} (f:α→β) (hf:∀ a,f (neg a)=neg' (f a)) (hi:∀ a b,f a=f b→a=b) {cs:List (List α)} {so:List α}:Bad neg' (cs.map (List.map f)) (so.map f)↔Bad neg cs so:=by
 constructor
 ·rintro (⟨l,h1,h2⟩|⟨c,h1,h2⟩)
  ·obtain ⟨x,rfl,hx⟩:=h1.unmap f hf hi
   obtain ⟨y,hy,hd⟩:=h2.unmap f hf hi
   rw [← hf] at hy
   exact .inl ⟨x,hx,hi _ _ hy ▸ hd⟩
  ·obtain ⟨c0,hc,rfl⟩:=List.mem_map.1 h1
   refine .inr ⟨c0,hc,fun m hm=>?_⟩
   obtain ⟨y,hy,hd⟩:=(h2 (f m) (zz hm)).unmap f hf hi
   rw [← hf] at hy
   exact hi _ _ hy ▸ hd
 ·rintro (⟨l,h1,h2⟩|⟨c,h1,h2⟩)
  ·exact .inl ⟨f l,h1.map f hf,hf l ▸ h2.map f hf⟩
  ·refine .inr ⟨c.map f,zz h1,fun m hm=>?_⟩
   obtain ⟨k,hk,rfl⟩:=List.mem_map.1 hm
   rw [← hf]
   exact (h2 k hk).map f hf
def ng (x:Nat):Nat:=x ^^^ 1
theorem qdv (x:Nat):ng (ng x)=x:=by unfold ng;rw [Nat.xor_assoc,Nat.xor_self,Nat.xor_zero]
theorem qin (x:Nat):ng x≠x:=fun h=>by
 have h2:x ^^^ (x ^^^ 1)=x ^^^ x:=congrArg (x ^^^ ·) h
 rw [← Nat.xor_assoc,Nat.xor_self,Nat.zero_xor] at h2
 cases h2
theorem qli (x:Nat):ng x / 2=x / 2:=by
 unfold ng
 rw [Nat.xor_div_two]
 simp
theorem qux (x:Nat):ng x=if x % 2=0 then x+1 else x - 1:=by
 have h1:=qli x
 have h2:=qin x
 split <;> omega
theorem qlj {x n:Nat} (h:x<2 * n):ng x<2 * n:=by
 have:=qli x
 omega
theorem qph {x y:Nat} (h:x / 2=y / 2):x=y∨x=ng y:=by
 have h1:=qli y
 have h2:=qin y
 omega
structure K where
 lits:List (List Nat)
 gone:List Bool
 keys:List (List UInt8 × Nat)
 pm:List (List Nat)
 pe:Nat→Nat
 watch:List (List Nat)
 we:Nat→Nat
 val:List Int
 rea:List Int
 trail:List Nat
 te:Nat
 head:Nat
 units:List Nat
 ue:Nat
 empty:Int
 broken:Bool
 stale:Bool
def K.set (k:K) (x:Nat) (r:Int):K:={ k with val:=(k.val.set x 1).set (ng x) (-1),rea:=k.rea.set (x / 2) r,trail:=k.trail++[x] }
def qbv (val:List Int):List Nat→List Int
 | []=>val
 | x::r=>qbv ((val.set x 0).set (ng x) 0) r
def qbo (rea:List Int):List Nat→List Int
 | []=>rea
 | x::r=>qbo (rea.set (x / 2) (-1)) r
def K.undo (k:K) (n:Nat):K:={ k with val:=qbv k.val (k.trail.drop n),rea:=qbo k.rea (k.trail.drop n),trail:=k.trail.take n,te:=k.te+1,head:=n }
def lit (k:K) (n:Nat):List Nat:=k.lits.getD n []
def vl (k:K) (x:Nat):Int:=k.val.getD x 0
def swap (l:List Nat) (i j:Nat):List Nat:=(l.set i (l.getD j 0)).set j (l.getD i 0)
def jz (val:List Int) (c:List Nat):Option Nat:=(List.range c.length).find? fun i=>decide (2≤i∧0≤val.getD (c.getD i 0) 0)
theorem jfm {val:List Int} {c:List Nat} {i:Nat} (h1:i<c.length) (h2:2≤i) (h3:0≤val.getD (c.getD i 0) 0) (h4:∀ j,2≤j→j<i→val.getD (c.getD j 0) 0<0):jz val c=some i:=by
 unfold jz
 rw [List.find?_range_eq_some]
 refine ⟨xx ⟨h2,h3⟩,List.mem_range.2 h1,fun j hj=>?_⟩
 rw [xp,decide_eq_false_iff_not]
 rintro ⟨h5,h6⟩
 have:=h4 j h5 hj
 omega
theorem jfn {val:List Int} {c:List Nat} (h4:∀ j,2≤j→j<c.length→val.getD (c.getD j 0) 0<0):jz val c=none:=by
 unfold jz
 rw [List.find?_eq_none]
 intro j hj h
 have h:=zab h
 have:=h4 j h.1 (List.mem_range.1 hj)
 omega
theorem qlk {val:List Int} {c:List Nat} {i:Nat} (h:jz val c=some i):i<c.length∧2≤i∧0≤val.getD (c.getD i 0) 0∧∀ j,2≤j→j<i→val.getD (c.getD j 0) 0<0:=by
 unfold jz at h
 rw [List.find?_range_eq_some] at h
 obtain ⟨h1,h2,h3⟩:=h
 have h1:=zab h1
 refine ⟨List.mem_range.1 h2,h1.1,h1.2,fun j hj hji=>?_⟩
 have:=h3 j hji
 rw [xp,decide_eq_false_iff_not] at this
 refine Int.not_le.1 fun h=>this ⟨hj,h⟩
theorem quy {val:List Int} {c:List Nat} (h:jz val c=none):∀ j,2≤j→j<c.length→val.getD (c.getD j 0) 0<0:=by
 intro j h1 h2
 unfold jz at h
 rw [List.find?_eq_none] at h
 have:=h j (List.mem_range.2 h2)
 rw [xn] at this
 exact Int.not_le.1 fun h=>this ⟨h1,h⟩
def K.other (k:K) (n:Nat):K × Bool:=
 match jz k.val (lit k n) with
 | none=>(k,false)
 | some i=>
  let y:=(lit k n).getD i 0
  ({ k with lits:=k.lits.set n (swap (lit k n) 1 i),watch:=k.watch.set y (k.watch.getD y []++[n]) },true)
def turnL (c:List Nat) (x:Nat):List Nat:=if c.getD 0 0=x then swap c 0 1 else c
def K.turn (k:K) (n x:Nat):K:={ k with lits:=k.lits.set n (turnL (lit k n) x) }
def qb (x:Nat) (list:List Nat) (k0:K):Nat→K × List Nat
 | 0=>(k0,[])
 | i+1=>
  if (qb x list k0 i).1.gone.getD (list.getD i 0) false then qb x list k0 i
  else if vl ((qb x list k0 i).1.turn (list.getD i 0) x) ((lit ((qb x list k0 i).1.turn (list.getD i 0) x) (list.getD i 0)).getD 0 0)≤0 then
   if (((qb x list k0 i).1.turn (list.getD i 0) x).other (list.getD i 0)).2 then ((((qb x list k0 i).1.turn (list.getD i 0) x).other (list.getD i 0)).1,(qb x list k0 i).2)
   else (((qb x list k0 i).1.turn (list.getD i 0) x).set ((lit ((qb x list k0 i).1.turn (list.getD i 0) x) (list.getD i 0)).getD 0 0) (list.getD i 0),(qb x list k0 i).2++[list.getD i 0])
  else ((qb x list k0 i).1.turn (list.getD i 0) x,(qb x list k0 i).2++[list.getD i 0])
def qbp (x n:Nat) (k:K):Bool:=!(k.gone.getD n false) && (decide (vl (k.turn n x) ((lit (k.turn n x) n).getD 0 0)<0) && !((k.turn n x).other n).2)
def bump (f:Nat→Nat) (x:Nat):Nat→Nat:=fun j=>if j=x then f j+1 else f j
def K.visit (k:K) (x:Nat):K × Bool:=
 match (List.range (k.watch.getD x []).length).find? fun i=>qbp x ((k.watch.getD x []).getD i 0) (qb x (k.watch.getD x []) k i).1 with
 | none=>
  let p:=qb x (k.watch.getD x []) k (k.watch.getD x []).length
  ({ p.1 with watch:=p.1.watch.set x p.2,we:=bump p.1.we x },true)
 | some i=>
  let p:=qb x (k.watch.getD x []) k i
  let k1:=p.1.turn ((k.watch.getD x []).getD i 0) x
  ({ k1 with watch:=k1.watch.set x (p.2++(k.watch.getD x []).drop i),we:=bump k1.we x },false)
def qal:Nat→K→K × Bool
 | 0,k=>(k,true)
 | f+1,k=>
  if k.head<k.trail.length then
   let o:=({ k with head:=k.head+1 }:K).visit (ng (k.trail.getD k.head 0))
   if o.2 then qal f o.1 else (o.1,false)
  else (k,true)
def K.prop (k:K):K × Bool:=qal (k.val.length+1 - k.head) k
def js:List Nat→K→List Nat→K × List Nat
 | [],k,us=>(k,us)
 | n::r,k,us=>
  if k.gone.getD n false then js r k us
  else
   let x:=(lit k n).getD 0 0
   let k1:=if vl k x<0 then { k with broken:=true } else if vl k x=0 then k.set x n else k
   js r k1 (us++[n])
def K.zero (k:K):K:={ k.undo 0 with stale:=false,broken:=false }
def K.mid (k:K):K:={ (js k.units k.zero []).1 with units:=(js k.units k.zero []).2,ue:=(js k.units k.zero []).1.ue+1 }
def K.refresh (k:K):K:=if k.stale then (if k.mid.broken then k.mid else { k.mid.prop.1 with broken:=!k.mid.prop.2 }) else k
def K.grow (k:K) (v:Nat):K:=
  if k.val.length<2 * v+2 then
    { k with val := k.val ++ List.replicate (2 * v + 2 - k.val.length) 0, watch := k.watch ++ List.replicate (2 * v + 2 - k.val.length) [], we := fun j => if j < k.watch.length then k.we j else 0,
             rea:=k.rea++List.replicate (v+1 - k.rea.length) (-1) }
  else k
def qq (val:List Int) (c:List Nat):Nat→Nat × List Nat
 | 0=>(0,c)
 | i+1=>if (qq val c i).1<2∧0≤val.getD ((qq val c i).2.getD i 0) 0 then ((qq val c i).1+1,swap (qq val c i).2 (qq val c i).1 i) else qq val c i
def qai (val:List Int) (c:List Nat):List Nat:=(qq val c c.length).2
end Go.Ru
end
