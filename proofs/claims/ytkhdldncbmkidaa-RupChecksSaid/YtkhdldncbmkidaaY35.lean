/- Some texts of the library, one behind the other. -/
import Derived.Test.YtkhdldncbmkidaaY34
import Derived.Test.YtkhdldncbmkidaaChecked
import Derived.Test.YtkhdldncbmkidaaY33
import Derived.Test.YtkhdldncbmkidaaY32
set_option linter.unusedSimpArgs false
set_option linter.unusedVariables false
section
namespace Go.Ru
def ng (x:Nat):Nat:=x ^^^ 1
theorem qeb (x:Nat):ng (ng x)=x:=by unfold ng;rw [Nat.xor_assoc,Nat.xor_self,Nat.xor_zero]
theorem qja (x:Nat):ng x≠x:=fun h=>by
 have h2:x ^^^ (x ^^^ 1)=x ^^^ x:=congrArg (x ^^^ ·) h
 rw [← Nat.xor_assoc,Nat.xor_self,Nat.zero_xor] at h2
 cases h2
theorem qly (x:Nat):ng x / 2=x / 2:=by
 unfold ng
 rw [Nat.xor_div_two]
 simp
theorem qvr (x:Nat):ng x=if x % 2=0 then x+1 else x - 1:=by
 have h1:=qly x
 have h2:=qja x
 split <;> omega
theorem qlz {x n:Nat} (h:x<2 * n):ng x<2 * n:=by
 have:=qly x
 omega
theorem qpv {x y:Nat} (h:x / 2=y / 2):x=y∨x=ng y:=by
 have h1:=qly y
 have h2:=qja y
 omega
structure K where
 lits:List (List Nat)
 gone:List Bool
 keys:List (List UInt8 × Nat)
 pm:List (List Nat)
 pe:Nat→Nat
 watch:List (List Nat)
 we:Nat→Nat
 val:List Int
 rea:List Int
 trail:List Nat
 te:Nat
 head:Nat
 units:List Nat
 ue:Nat
 empty:Int
 broken:Bool
 stale:Bool
def K.set (k:K) (x:Nat) (r:Int):K:={ k with val:=(k.val.set x 1).set (ng x) (-1),rea:=k.rea.set (x / 2) r,trail:=k.trail++[x] }
def qcd (val:List Int):List Nat→List Int
 | []=>val
 | x::r=>qcd ((val.set x 0).set (ng x) 0) r
def qbv (rea:List Int):List Nat→List Int
 | []=>rea
 | x::r=>qbv (rea.set (x / 2) (-1)) r
def K.undo (k:K) (n:Nat):K:={ k with val:=qcd k.val (k.trail.drop n),rea:=qbv k.rea (k.trail.drop n),trail:=k.trail.take n,te:=k.te+1,head:=n }
def lit (k:K) (n:Nat):List Nat:=k.lits.getD n []
def vl (k:K) (x:Nat):Int:=k.val.getD x 0
def swap (l:List Nat) (i j:Nat):List Nat:=(l.set i (l.getD j 0)).set j (l.getD i 0)
def qae (val:List Int) (c:List Nat):Option Nat:=(List.range c.length).find? fun i=>decide (2≤i∧0≤val.getD (c.getD i 0) 0)
theorem jgp {val:List Int} {c:List Nat} {i:Nat} (h1:i<c.length) (h2:2≤i) (h3:0≤val.getD (c.getD i 0) 0) (h4:∀ j,2≤j→j<i→val.getD (c.getD j 0) 0<0):qae val c=some i:=by
 unfold qae
 rw [List.find?_range_eq_some]
 refine ⟨xn ⟨h2,h3⟩,List.mem_range.2 h1,fun j hj=>?_⟩
 rw [xr,decide_eq_false_iff_not]
 rintro ⟨h5,h6⟩
 have:=h4 j h5 hj
 omega
theorem jgq {val:List Int} {c:List Nat} (h4:∀ j,2≤j→j<c.length→val.getD (c.getD j 0) 0<0):qae val c=none:=by
 unfold qae
 rw [List.find?_eq_none]
 intro j hj h
 have h:=zaa h
 have:=h4 j h.1 (List.mem_range.1 hj)
 omega
theorem qma {val:List Int} {c:List Nat} {i:Nat} (h:qae val c=some i):i<c.length∧2≤i∧0≤val.getD (c.getD i 0) 0∧∀ j,2≤j→j<i→val.getD (c.getD j 0) 0<0:=by
 unfold qae at h
 rw [List.find?_range_eq_some] at h
 obtain ⟨h1,h2,h3⟩:=h
 have h1:=zaa h1
 refine ⟨List.mem_range.1 h2,h1.1,h1.2,fun j hj hji=>?_⟩
 have:=h3 j hji
 rw [xr,decide_eq_false_iff_not] at this
 refine Int.not_le.1 fun h=>this ⟨hj,h⟩
theorem qvs {val:List Int} {c:List Nat} (h:qae val c=none):∀ j,2≤j→j<c.length→val.getD (c.getD j 0) 0<0:=by
 intro j h1 h2
 unfold qae at h
 rw [List.find?_eq_none] at h
 have:=h j (List.mem_range.2 h2)
 rw [xp] at this
 exact Int.not_le.1 fun h=>this ⟨h1,h⟩
def K.other (k:K) (n:Nat):K × Bool:=
 match qae k.val (lit k n) with
 | none=>(k,false)
 | some i=>
  let y:=(lit k n).getD i 0
  ({ k with lits:=k.lits.set n (swap (lit k n) 1 i),watch:=k.watch.set y (k.watch.getD y []++[n]) },true)
def turnL (c:List Nat) (x:Nat):List Nat:=if c.getD 0 0=x then swap c 0 1 else c
def K.turn (k:K) (n x:Nat):K:={ k with lits:=k.lits.set n (turnL (lit k n) x) }
def qb (x:Nat) (list:List Nat) (k0:K):Nat→K × List Nat
 | 0=>(k0,[])
 | i+1=>
  if (qb x list k0 i).1.gone.getD (list.getD i 0) false then qb x list k0 i
  else if vl ((qb x list k0 i).1.turn (list.getD i 0) x) ((lit ((qb x list k0 i).1.turn (list.getD i 0) x) (list.getD i 0)).getD 0 0)≤0 then
   if (((qb x list k0 i).1.turn (list.getD i 0) x).other (list.getD i 0)).2 then ((((qb x list k0 i).1.turn (list.getD i 0) x).other (list.getD i 0)).1,(qb x list k0 i).2)
   else (((qb x list k0 i).1.turn (list.getD i 0) x).set ((lit ((qb x list k0 i).1.turn (list.getD i 0) x) (list.getD i 0)).getD 0 0) (list.getD i 0),(qb x list k0 i).2++[list.getD i 0])
  else ((qb x list k0 i).1.turn (list.getD i 0) x,(qb x list k0 i).2++[list.getD i 0])
def qbw (x n:Nat) (k:K):Bool:=!(k.gone.getD n false) && (decide (vl (k.turn n x) ((lit (k.turn n x) n).getD 0 0)<0) && !((k.turn n x).other n).2)
def bump (f:Nat→Nat) (x:Nat):Nat→Nat:=fun j=>if j=x then f j+1 else f j
def K.visit (k:K) (x:Nat):K × Bool:=
 match (List.range (k.watch.getD x []).length).find? fun i=>qbw x ((k.watch.getD x []).getD i 0) (qb x (k.watch.getD x []) k i).1 with
 | none=>
  let p:=qb x (k.watch.getD x []) k (k.watch.getD x []).length
  ({ p.1 with watch:=p.1.watch.set x p.2,we:=bump p.1.we x },true)
 | some i=>
  let p:=qb x (k.watch.getD x []) k i
  let k1:=p.1.turn ((k.watch.getD x []).getD i 0) x
  ({ k1 with watch:=k1.watch.set x (p.2++(k.watch.getD x []).drop i),we:=bump k1.we x },false)
def qas:Nat→K→K × Bool
 | 0,k=>(k,true)
 | f+1,k=>
  if k.head<k.trail.length then
   let o:=({ k with head:=k.head+1 }:K).visit (ng (k.trail.getD k.head 0))
   if o.2 then qas f o.1 else (o.1,false)
  else (k,true)
def K.prop (k:K):K × Bool:=qas (k.val.length+1 - k.head) k
def ju:List Nat→K→List Nat→K × List Nat
 | [],k,us=>(k,us)
 | n::r,k,us=>
  if k.gone.getD n false then ju r k us
  else
   let x:=(lit k n).getD 0 0
   let k1:=if vl k x<0 then { k with broken:=true } else if vl k x=0 then k.set x n else k
   ju r k1 (us++[n])
def K.zero (k:K):K:={ k.undo 0 with stale:=false,broken:=false }
def K.mid (k:K):K:={ (ju k.units k.zero []).1 with units:=(ju k.units k.zero []).2,ue:=(ju k.units k.zero []).1.ue+1 }
def K.refresh (k:K):K:=if k.stale then (if k.mid.broken then k.mid else { k.mid.prop.1 with broken:=!k.mid.prop.2 }) else k
def K.grow (k:K) (v:Nat):K:=
  if k.val.length<2 * v+2 then
    { k with val := k.val ++ List.replicate (2 * v + 2 - k.val.length) 0, watch := k.watch ++ List.replicate (2 * v + 2 - k.val.length) [], we := fun j => if j < k.watch.length then k.we j else 0,
             rea:=k.rea++List.replicate (v+1 - k.rea.length) (-1) }
  else k
def qq (val:List Int) (c:List Nat):Nat→Nat × List Nat
 | 0=>(0,c)
 | i+1=>if (qq val c i).1<2∧0≤val.getD ((qq val c i).2.getD i 0) 0 then ((qq val c i).1+1,swap (qq val c i).2 (qq val c i).1 i) else qq val c i
def qao (val:List Int) (c:List Nat):List Nat:=(qq val c c.length).2
end Go.Ru
end
section
namespace Go.Proofs.Ytkhdldncbmkidaa
open List renaming getD_eq_getElem?_getD → zd
open Go Go.Sx Go.RowKit Go.Ru
set_option maxRecDepth 100000
def encN (l:List Nat):Nat→List AV:=encL (fun n:Nat=>[iv n]) 0 l
def encV (l:List Int):Nat→List AV:=encL (fun n=>[.int .i8 n]) 0 l
def encI (l:List Int):Nat→List AV:=encL (fun n=>[iv n]) 0 l
def boxK (k:K):List AV:=[.own 1 0 0 k.lits.length,.mapv 3,.own 5 0 0 k.watch.length,.own 7 0 0 k.val.length,.own 8 0 0 k.rea.length,.own 9 0 k.te k.trail.length,iv k.head,.own 10 0 k.ue k.units.length,iv k.empty,.bool k.broken,.bool k.stale]
def stK (k:K):List SO:=[
 .box 59 (boxK k),
 .row [2] 68 2 0 k.lits.length (fun i=>[.own 2 i 1 (k.lits.getD i []).length,.bool (k.gone.getD i false)]),
 .fam 3 1 k.lits.length (fun _=>1) (fun i=>(k.lits.getD i []).length) (fun i=>encN (k.lits.getD i [])),
 .box mapTy [.keys (k.keys.map fun p=>p.1),.mvals 4 (k.keys.map fun p=>(p.2,k.pe p.2,(k.pm.getD p.2 []).length))],
 .fam 3 1 k.pm.length k.pe (fun i=>(k.pm.getD i []).length) (fun i=>encN (k.pm.getD i [])),
 .row [6] 23 1 0 k.watch.length (fun i=>[.own 6 i (k.we i) (k.watch.getD i []).length]),
 .fam 3 1 k.watch.length k.we (fun i=>(k.watch.getD i []).length) (fun i=>encN (k.watch.getD i [])),
 .row [] 62 1 0 k.val.length (encV k.val),
 .row [] 3 1 0 k.rea.length (encI k.rea),
 .row [] 3 1 k.te k.trail.length (encN k.trail),
 .row [] 3 1 k.ue k.units.length (encN k.units)]
structure Sz (k:K):Prop where
 vr:k.val.length=2 * k.rea.length
 vw:k.watch.length=k.val.length
 v:k.val.length≤1000000
 t:k.trail.length≤1000000
theorem qmb (x:Nat) (h:x<1000000):bitI .xor .i64 (x:Int) 1=((ng x:Nat):Int):=by
 have h1:ng x<2 * 1000000:=qlz (by omega)
 have h2:(BitVec.ofInt 64 (x:Int) ^^^ BitVec.ofInt 64 1).toNat=ng x:=by
  rw [BitVec.toNat_xor]
  have e1:(BitVec.ofInt 64 (x:Int)).toNat=x:=by
   rw [show ((x:Nat):Int)=Int.ofNat x from rfl]
   simp [BitVec.toNat_ofInt]
   omega
  rw [e1]
  rfl
 show IntKind.wrap .i64 (((BitVec.ofInt 64 (x:Int) ^^^ BitVec.ofInt 64 1).toNat:Nat):Int)=_
 rw [h2,IntKind.wrap_i64]
 omega
theorem qpw {α:Type} (enc:α→List AV) (d:α) (l:List α) (i:Nat) (x:α) (hi:i<l.length) (j:Nat):(if j=i then enc x else encL enc d l j)=encL enc d (l.set i x) j:=by
 unfold encL
 rw [zd,zd,zbb]
 by_cases h:j=i
 ·subst h
  rw [za rfl,za rfl,za hi];rfl
 ·rw [ze h,ze (Ne.symm h)]
theorem put1 {α:Type} {enc:α→List AV} {d:α} {l:List α} {n a i:Nat} {x:α} (ha:a=i) (hi:i<l.length):∀ j,j<n→LeL (if j=a then enc x else encL enc d l j) (encL enc d (l.set i x) j):=fun j _=>by
 subst ha
 rw [qpw enc d l a x hi j]
 exact LeL.refl _
theorem put2 {α:Type} {enc:α→List AV} {d:α} {l:List α} {n a i b k:Nat} {x y:α} (ha:a=i) (hb:b=k) (hi:i<l.length) (hk:k<l.length):∀ j,j<n→LeL (if j=b then enc y else if j=a then enc x else encL enc d l j) (encL enc d ((l.set i x).set k y) j):=fun j _=>by
 subst ha hb
 rw [qpw enc d l a x hi j,qpw enc d (l.set a x) b y (by simpa using hk) j]
 exact LeL.refl _
theorem qvt {l:List Int} {n a i:Nat} {x:Int} (ha:a=i) (hi:i<l.length):∀ j,j<n→LeL (if j=a then [iv x] else encI l j) (encI (l.set i x) j):=put1 (enc:=fun n=>[iv n]) ha hi
theorem qvu {l:List Int} {n a i b k:Nat} {x y:Int} (ha:a=i) (hb:b=k) (hi:i<l.length) (hk:k<l.length):∀ j,j<n→LeL (if j=b then qy (if b=a then [.int .i8 x] else encV l b) 0 [.int .i8 y] else if j=a then [.int .i8 x] else encV l j) (encV ((l.set i x).set k y) j):=by
 have e:qy (if b=a then [AV.int .i8 x] else encV l b) 0 [.int .i8 y]=[.int .i8 y]:=by split <;> rfl
 rw [e]
 exact put2 (enc:=fun n=>[.int .i8 n]) ha hb hi hk
theorem app1 {α:Type} {enc:α→List AV} {d:α} {l:List α} {x:α} {g:Nat→List AV} (hg:g 0=enc x):∀ j,j<l.length+1→LeL (appF l.length (encL enc d l) 1 g j) (encL enc d (l++[x]) j):=fun j hj=>by
 refine LeL.of_eq ?_
 unfold appF encL
 rw [zd (l:=l++[x])]
 by_cases h:j<l.length
 ·rw [za h,zn h,zd]
 ·obtain rfl:j=l.length:=by omega
  rw [ze h,za hj,zad,hg,zl (zj _),zad];rfl
theorem qjb {l:List Nat} {x:Nat} {g:Nat→List AV} (hg:g 0=[iv x]):∀ j,j<l.length+1→LeL (appF l.length (encN l) 1 g j) (encN (l++[x]) j):=app1 hg
theorem qjc (k:K) (hk:Sz k) (x:Nat) (hx:x<k.val.length) (r:Int):Trip Try.prog 42 [.ptr 0 0,iv x,iv r] (stK k) (.tup []) (idx 0 (stK (k.set x r))) 11:=by
 have h1:=hk.vr
 have h2:=hk.v
 have h3:=hk.t
 have hxo:=qmb x (by omega)
 have hng:ng x<k.val.length:=by rw [h1];exact qlz (by omega)
 have hdv:(x:Int).tdiv 2=((x / 2:Nat):Int):=rfl
 unfold stK boxK
 simp only [K.set,xd,zi,xh,zaf,zw]
 refine zL {} 300 Try.func42 (fun c0 rdb mpb=>?_)
 (repeat' ((conv=>whnf);first|refine zA ?_|refine zO ?_|refine Ob.auto ?_|(refine Ob.intro (by (first|exact ⟨by omega,by omega⟩|exact ⟨by decide,qbh (by omega) (by omega)⟩)) ?_)|refine zD 300 ?_|(apply zB <;> intro hb <;> (try simp [-zd] at hb) <;> try (exfalso;omega))|refine Ob.intro ?_ ?_))
 refine ⟨Le.refl _,?_⟩
 repeat' (first|exact trivial|exact rfl|exact SoLe.refl _|exact Le.refl _|exact qvu (by omega) (by omega) hx hng|exact qvt (by omega) (by omega)|exact qjb rfl|refine And.intro ?_ ?_)
set_option maxHeartbeats 4000000
theorem qvv (x:Nat):∀ (l:List Nat) (v:List Int),qcd v (l++[x])=((qcd v l).set x 0).set (ng x) 0
 | [],_=>rfl
 | y::l,v=>qvv x l _
theorem qvw (x:Nat):∀ (l:List Nat) (v:List Int),qbv v (l++[x])=(qbv v l).set (x / 2) (-1)
 | [],_=>rfl
 | y::l,v=>qvw x l _
theorem qmc:∀ (l:List Nat) (v:List Int),(qcd v l).length=v.length
 | [],_=>rfl
 | y::l,v=>by unfold qcd;rw [qmc l];simp
theorem qpx:∀ (l:List Nat) (v:List Int),(qbv v l).length=v.length
 | [],_=>rfl
 | y::l,v=>by unfold qbv;rw [qpx l];simp
theorem qvx (l:List Nat) (n i:Nat) (h:n+i<l.length):(l.drop n).take (i+1)=(l.drop n).take i++[l.getD (n+i) 0]:=by
 rw [zal,xa,zd,zb h];rfl
theorem qvy {α:Type} {enc:α→List AV} {d:α} {l:List α} {n j:Nat} (hj:j<n):encL enc d l j=encL enc d (l.take n) j:=by
 unfold encL
 rw [zd,zd,xc,za hj]
theorem takeN {l:List Nat} (n:Nat):∀ j,j<n→LeL (encN l j) (encN (l.take n) j):=fun j hj=>LeL.of_eq (qvy hj)
theorem qhg {l:List Nat} {i:Nat} (h:i<l.length):l.getD i 0∈l:=by
 rw [zd,zb h]
 exact zau h
theorem qpy (k:K) (hk:Sz k) (ht:∀ x∈k.trail,x<k.val.length) (n:Nat) (hn:n≤k.trail.length):Trip Try.prog 44 [.ptr 0 0,iv n] (stK k) (.tup []) (idx 0 (stK (k.undo n))) 11:=by
 have h1:=hk.vr
 have h2:=hk.v
 have h3:=hk.t
 unfold stK boxK
 have htl:(k.trail.take n).length=n:=by rw [zu];omega
 simp only [K.undo,qmc,qpx,htl]
 refine zL {cuts:=[44],subs:=[11]} 300 Try.func44 (fun c0 rdb mpb=>?_)
 (repeat' ((conv=>whnf);first|refine zA ?_|refine zO ?_|refine Ob.auto ?_|refine zI ?_|refine zD 300 ?_|(apply zB <;> intro hb <;> (try simp [-zd] at hb) <;> try (exfalso;omega))|refine Ob.intro ?_ ?_))
 refine OpG.cus (fun _=>rfl) 300 rfl (by kernel_rfl) (qvc (fun _=>rfl) rfl rfl rfl rfl trivial ⟨rfl,rfl⟩ rfl (zj _) (by omega)) ?_
 (repeat' ((conv=>whnf);first|refine zA ?_|refine zO ?_|refine Ob.auto ?_|refine zI ?_|refine zD 300 ?_|(apply zB <;> intro hb <;> (try simp [-zd] at hb) <;> try (exfalso;omega))|refine Ob.intro ?_ ?_))
 refine OpG.cus (fun _=>rfl) 300 rfl (by kernel_rfl) (jfz (fun _=>rfl) rfl rfl rfl rfl trivial ⟨rfl,rfl⟩) ?_
 (repeat' ((conv=>whnf);first|refine zA ?_|refine zO ?_|refine Ob.auto ?_|refine zI ?_|refine zD 300 ?_|(apply zB <;> intro hb <;> (try simp [-zd] at hb) <;> try (exfalso;omega))|refine Ob.intro ?_ ?_))
 ((conv=>whnf);refine qw (fun _=>rfl) 300 1 (fun i:Nat=>[(13,iv i)]) (fun i=>[(7,.row [] 62 1 0 k.val.length (encV (qcd k.val ((k.trail.drop n).take i)))),(8,.row [] 3 1 0 k.rea.length (encI (qbv k.rea ((k.trail.drop n).take i))))]) (fun i=>i≤k.trail.length - n) (fun i=>k.trail.length - n - i) (0) (zv _) qa qa (fun _=>rfl) (by kernel_rfl) ?_;(conv=>whnf))
 intro i hi
 by_cases hil:i<k.trail.length - n
 ·have hxv:k.trail.getD (n+i) 0<k.val.length:=ht _ (qhg (by omega))
  have hxo:=qmb (k.trail.getD (n+i) 0) (by omega)
  have hng:ng (k.trail.getD (n+i) 0)<k.val.length:=by rw [h1];exact qlz (by omega)
  have hdv:((k.trail.getD (n+i) 0:Nat):Int).tdiv 2=((k.trail.getD (n+i) 0 / 2:Nat):Int):=rfl
  (repeat' ((conv=>whnf);first|refine zA ?_|refine zO ?_|refine Ob.auto ?_|refine zI ?_|refine zD 300 ?_|(apply zB <;> intro hb <;> (try simp [-zd] at hb) <;> try (exfalso;omega))|refine Ob.intro ?_ ?_))
  refine OpG.cus (fun _=>rfl) 300 rfl (by kernel_rfl) (jge (fun _=>rfl) (n+i) rfl rfl rfl rfl trivial ⟨rfl,rfl⟩ rfl rfl (zj _) (by omega) rfl) ?_
  (repeat' ((conv=>whnf);first|refine zA ?_|refine zO ?_|refine Ob.auto ?_|(refine Ob.intro (by (first|exact ⟨by omega,by omega⟩|exact ⟨by decide,qbh (by omega) (by omega)⟩)) ?_)|refine zD 300 ?_|(apply zB <;> intro hb <;> (try simp [-zd] at hb) <;> try (exfalso;omega))|refine Ob.intro ?_ ?_))
  have eV:qcd k.val ((k.trail.drop n).take (i+1))=((qcd k.val ((k.trail.drop n).take i)).set (k.trail.getD (n+i) 0) 0).set (ng (k.trail.getD (n+i) 0)) 0:=by
   rw [qvx k.trail n i (by omega),qvv]
  have eR:qbv k.rea ((k.trail.drop n).take (i+1))=(qbv k.rea ((k.trail.drop n).take i)).set (k.trail.getD (n+i) 0 / 2) (-1):=by
   rw [qvx k.trail n i (by omega),qvw]
  ((conv=>whnf);refine ⟨i+1,by omega,⟨subA,by
   rw [eV,eR]
   repeat' (first|exact trivial|exact rfl|exact SoLe.refl _|exact Le.refl _|exact qvu (by omega) (by omega) (by rw [qmc];exact hxv) (by rw [qmc];exact hng)|exact qvt (by omega) (by rw [qpx];omega)|refine And.intro ?_ ?_)⟩,⟨qa,qa⟩,?_⟩;(first|omega|(dsimp only;omega)|skip))
 ·obtain rfl:i=k.trail.length - n:=by omega
  have hall:(k.trail.drop n).take (k.trail.length - n)=k.trail.drop n:=List.take_of_length_le (by simp)
  rw [hall]
  (repeat' ((conv=>whnf);first|refine zA ?_|refine zO ?_|refine Ob.auto ?_|refine zI ?_|refine zD 300 ?_|(apply zB <;> intro hb <;> (try simp [-zd] at hb) <;> try (exfalso;omega))|refine Ob.intro ?_ ?_))
  refine ⟨Le.refl _,?_⟩
  repeat' (first|exact trivial|exact rfl|exact SoLe.refl _|exact Le.refl _|exact takeN n|refine And.intro ?_ ?_)
end Go.Proofs.Ytkhdldncbmkidaa
end
