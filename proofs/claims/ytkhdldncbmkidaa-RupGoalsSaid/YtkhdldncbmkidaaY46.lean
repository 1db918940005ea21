/- Some texts of the library, one behind the other. -/
import Derived.Test.YtkhdldncbmkidaaChecked
import Derived.Test.YtkhdldncbmkidaaY43
import Derived.Test.YtkhdldncbmkidaaY42
import Derived.Test.YtkhdldncbmkidaaY45
set_option linter.unusedSimpArgs false
set_option linter.unusedVariables false
section
namespace Go.Proofs.Ytkhdldncbmkidaa
open List renaming getD_eq_getElem?_getD → zd
open Go Go.Sx Go.RowKit Go.Ru
set_option maxRecDepth 100000
def encN (l:List Nat):Nat→List AV:=encL (fun n:Nat=>[iv n]) 0 l
def encV (l:List Int):Nat→List AV:=encL (fun n=>[.int .i8 n]) 0 l
def encI (l:List Int):Nat→List AV:=encL (fun n=>[iv n]) 0 l
def boxK (k:K):List AV:=[.own 1 0 0 k.lits.length,.mapv 3,.own 5 0 0 k.watch.length,.own 7 0 0 k.val.length,.own 8 0 0 k.rea.length,.own 9 0 k.te k.trail.length,iv k.head,.own 10 0 k.ue k.units.length,iv k.empty,.bool k.broken,.bool k.stale]
def stK (k:K):List SO:=[
 .box 59 (boxK k),
 .row [2] 68 2 0 k.lits.length (fun i=>[.own 2 i 1 (k.lits.getD i []).length,.bool (k.gone.getD i false)]),
 .fam 3 1 k.lits.length (fun _=>1) (fun i=>(k.lits.getD i []).length) (fun i=>encN (k.lits.getD i [])),
 .box mapTy [.keys (k.keys.map fun p=>p.1),.mvals 4 (k.keys.map fun p=>(p.2,k.pe p.2,(k.pm.getD p.2 []).length))],
 .fam 3 1 k.pm.length k.pe (fun i=>(k.pm.getD i []).length) (fun i=>encN (k.pm.getD i [])),
 .row [6] 23 1 0 k.watch.length (fun i=>[.own 6 i (k.we i) (k.watch.getD i []).length]),
 .fam 3 1 k.watch.length k.we (fun i=>(k.watch.getD i []).length) (fun i=>encN (k.watch.getD i [])),
 .row [] 62 1 0 k.val.length (encV k.val),
 .row [] 3 1 0 k.rea.length (encI k.rea),
 .row [] 3 1 k.te k.trail.length (encN k.trail),
 .row [] 3 1 k.ue k.units.length (encN k.units)]
structure Sz (k:K):Prop where
 vr:k.val.length=2 * k.rea.length
 vw:k.watch.length=k.val.length
 v:k.val.length≤1000000
 t:k.trail.length≤1000000
theorem qlj (x:Nat) (h:x<1000000):bitI .xor .i64 (x:Int) 1=((ng x:Nat):Int):=by
 have h1:ng x<2 * 1000000:=qlh (by omega)
 have h2:(BitVec.ofInt 64 (x:Int) ^^^ BitVec.ofInt 64 1).toNat=ng x:=by
  rw [BitVec.toNat_xor]
  have e1:(BitVec.ofInt 64 (x:Int)).toNat=x:=by
   rw [show ((x:Nat):Int)=Int.ofNat x from rfl]
   simp [BitVec.toNat_ofInt]
   omega
  rw [e1]
  rfl
 show IntKind.wrap .i64 (((BitVec.ofInt 64 (x:Int) ^^^ BitVec.ofInt 64 1).toNat:Nat):Int)=_
 rw [h2,IntKind.wrap_i64]
 omega
theorem qpd {α:Type} (enc:α→List AV) (d:α) (l:List α) (i:Nat) (x:α) (hi:i<l.length) (j:Nat):(if j=i then enc x else encL enc d l j)=encL enc d (l.set i x) j:=by
 unfold encL
 rw [zd,zd,zaz]
 by_cases h:j=i
 ·subst h
  rw [za rfl,za rfl,za hi];rfl
 ·rw [ze h,ze (Ne.symm h)]
theorem put1 {α:Type} {enc:α→List AV} {d:α} {l:List α} {n a i:Nat} {x:α} (ha:a=i) (hi:i<l.length):∀ j,j<n→LeL (if j=a then enc x else encL enc d l j) (encL enc d (l.set i x) j):=fun j _=>by
 subst ha
 rw [qpd enc d l a x hi j]
 exact LeL.refl _
theorem put2 {α:Type} {enc:α→List AV} {d:α} {l:List α} {n a i b k:Nat} {x y:α} (ha:a=i) (hb:b=k) (hi:i<l.length) (hk:k<l.length):∀ j,j<n→LeL (if j=b then enc y else if j=a then enc x else encL enc d l j) (encL enc d ((l.set i x).set k y) j):=fun j _=>by
 subst ha hb
 rw [qpd enc d l a x hi j,qpd enc d (l.set a x) b y (by simpa using hk) j]
 exact LeL.refl _
theorem quy {l:List Int} {n a i:Nat} {x:Int} (ha:a=i) (hi:i<l.length):∀ j,j<n→LeL (if j=a then [iv x] else encI l j) (encI (l.set i x) j):=put1 (enc:=fun n=>[iv n]) ha hi
theorem quz {l:List Int} {n a i b k:Nat} {x y:Int} (ha:a=i) (hb:b=k) (hi:i<l.length) (hk:k<l.length):∀ j,j<n→LeL (if j=b then qx (if b=a then [.int .i8 x] else encV l b) 0 [.int .i8 y] else if j=a then [.int .i8 x] else encV l j) (encV ((l.set i x).set k y) j):=by
 have e:qx (if b=a then [AV.int .i8 x] else encV l b) 0 [.int .i8 y]=[.int .i8 y]:=by split <;> rfl
 rw [e]
 exact put2 (enc:=fun n=>[.int .i8 n]) ha hb hi hk
theorem app1 {α:Type} {enc:α→List AV} {d:α} {l:List α} {x:α} {g:Nat→List AV} (hg:g 0=enc x):∀ j,j<l.length+1→LeL (appF l.length (encL enc d l) 1 g j) (encL enc d (l++[x]) j):=fun j hj=>by
 refine LeL.of_eq ?_
 unfold appF encL
 rw [zd (l:=l++[x])]
 by_cases h:j<l.length
 ·rw [za h,zo h,zd]
 ·obtain rfl:j=l.length:=by omega
  rw [ze h,za hj,zag,hg,zm (zi _),zag];rfl
theorem qio {l:List Nat} {x:Nat} {g:Nat→List AV} (hg:g 0=[iv x]):∀ j,j<l.length+1→LeL (appF l.length (encN l) 1 g j) (encN (l++[x]) j):=app1 hg
theorem qip (k:K) (hk:Sz k) (x:Nat) (hx:x<k.val.length) (r:Int):Trip Try.prog 42 [.ptr 0 0,iv x,iv r] (stK k) (.tup []) (idx 0 (stK (k.set x r))) 11:=by
 have h1:=hk.vr
 have h2:=hk.v
 have h3:=hk.t
 have hxo:=qlj x (by omega)
 have hng:ng x<k.val.length:=by rw [h1];exact qlh (by omega)
 have hdv:(x:Int).tdiv 2=((x / 2:Nat):Int):=rfl
 unfold stK boxK
 simp only [K.set,xg,zj,xj,zab,zx]
 refine zL {} 300 Try.func42 (fun c0 rdb mpb=>?_)
 (repeat' ((conv=>whnf);first|refine zA ?_|refine zO ?_|refine Ob.auto ?_|(refine Ob.intro (by (first|exact ⟨by omega,by omega⟩|exact ⟨by decide,qbk (by omega) (by omega)⟩)) ?_)|refine zD 300 ?_|(apply zB <;> intro hb <;> (try simp [-zd] at hb) <;> try (exfalso;omega))|refine Ob.intro ?_ ?_))
 refine ⟨Le.refl _,?_⟩
 repeat' (first|exact trivial|exact rfl|exact SoLe.refl _|exact Le.refl _|exact quz (by omega) (by omega) hx hng|exact quy (by omega) (by omega)|exact qio rfl|refine And.intro ?_ ?_)
set_option maxHeartbeats 4000000
theorem qva (x:Nat):∀ (l:List Nat) (v:List Int),qbu v (l++[x])=((qbu v l).set x 0).set (ng x) 0
 | [],_=>rfl
 | y::l,v=>qva x l _
theorem qvb (x:Nat):∀ (l:List Nat) (v:List Int),qbm v (l++[x])=(qbm v l).set (x / 2) (-1)
 | [],_=>rfl
 | y::l,v=>qvb x l _
theorem qlk:∀ (l:List Nat) (v:List Int),(qbu v l).length=v.length
 | [],_=>rfl
 | y::l,v=>by unfold qbu;rw [qlk l];simp
theorem qpe:∀ (l:List Nat) (v:List Int),(qbm v l).length=v.length
 | [],_=>rfl
 | y::l,v=>by unfold qbm;rw [qpe l];simp
theorem qvc (l:List Nat) (n i:Nat) (h:n+i<l.length):(l.drop n).take (i+1)=(l.drop n).take i++[l.getD (n+i) 0]:=by
 rw [zat,xb,zd,zb h];rfl
theorem jfc {α:Type} {enc:α→List AV} {d:α} {l:List α} {n j:Nat} (hj:j<n):encL enc d l j=encL enc d (l.take n) j:=by
 unfold encL
 rw [zd,zd,xe,za hj]
theorem takeN {l:List Nat} (n:Nat):∀ j,j<n→LeL (encN l j) (encN (l.take n) j):=fun j hj=>LeL.of_eq (jfc hj)
theorem qgu {l:List Nat} {i:Nat} (h:i<l.length):l.getD i 0∈l:=by
 rw [zd,zb h]
 exact zar h
theorem qpf (k:K) (hk:Sz k) (ht:∀ x∈k.trail,x<k.val.length) (n:Nat) (hn:n≤k.trail.length):Trip Try.prog 44 [.ptr 0 0,iv n] (stK k) (.tup []) (idx 0 (stK (k.undo n))) 11:=by
 have h1:=hk.vr
 have h2:=hk.v
 have h3:=hk.t
 unfold stK boxK
 have htl:(k.trail.take n).length=n:=by rw [zr];omega
 simp only [K.undo,qlk,qpe,htl]
 refine zL {cuts:=[44],subs:=[11]} 300 Try.func44 (fun c0 rdb mpb=>?_)
 (repeat' ((conv=>whnf);first|refine zA ?_|refine zO ?_|refine Ob.auto ?_|refine zI ?_|refine zD 300 ?_|(apply zB <;> intro hb <;> (try simp [-zd] at hb) <;> try (exfalso;omega))|refine Ob.intro ?_ ?_))
 refine OpG.cus (fun _=>rfl) 300 rfl (by kernel_rfl) (qug (fun _=>rfl) rfl rfl rfl rfl trivial ⟨rfl,rfl⟩ rfl (zi _) (by omega)) ?_
 (repeat' ((conv=>whnf);first|refine zA ?_|refine zO ?_|refine Ob.auto ?_|refine zI ?_|refine zD 300 ?_|(apply zB <;> intro hb <;> (try simp [-zd] at hb) <;> try (exfalso;omega))|refine Ob.intro ?_ ?_))
 refine OpG.cus (fun _=>rfl) 300 rfl (by kernel_rfl) (jek (fun _=>rfl) rfl rfl rfl rfl trivial ⟨rfl,rfl⟩) ?_
 (repeat' ((conv=>whnf);first|refine zA ?_|refine zO ?_|refine Ob.auto ?_|refine zI ?_|refine zD 300 ?_|(apply zB <;> intro hb <;> (try simp [-zd] at hb) <;> try (exfalso;omega))|refine Ob.intro ?_ ?_))
 ((conv=>whnf);refine jk (fun _=>rfl) 300 1 (fun i:Nat=>[(13,iv i)]) (fun i=>[(7,.row [] 62 1 0 k.val.length (encV (qbu k.val ((k.trail.drop n).take i)))),(8,.row [] 3 1 0 k.rea.length (encI (qbm k.rea ((k.trail.drop n).take i))))]) (fun i=>i≤k.trail.length - n) (fun i=>k.trail.length - n - i) (0) (xa _) qa qa (fun _=>rfl) (by kernel_rfl) ?_;(conv=>whnf))
 intro i hi
 by_cases hil:i<k.trail.length - n
 ·have hxv:k.trail.getD (n+i) 0<k.val.length:=ht _ (qgu (by omega))
  have hxo:=qlj (k.trail.getD (n+i) 0) (by omega)
  have hng:ng (k.trail.getD (n+i) 0)<k.val.length:=by rw [h1];exact qlh (by omega)
  have hdv:((k.trail.getD (n+i) 0:Nat):Int).tdiv 2=((k.trail.getD (n+i) 0 / 2:Nat):Int):=rfl
  (repeat' ((conv=>whnf);first|refine zA ?_|refine zO ?_|refine Ob.auto ?_|refine zI ?_|refine zD 300 ?_|(apply zB <;> intro hb <;> (try simp [-zd] at hb) <;> try (exfalso;omega))|refine Ob.intro ?_ ?_))
  refine OpG.cus (fun _=>rfl) 300 rfl (by kernel_rfl) (jep (fun _=>rfl) (n+i) rfl rfl rfl rfl trivial ⟨rfl,rfl⟩ rfl rfl (zi _) (by omega) rfl) ?_
  (repeat' ((conv=>whnf);first|refine zA ?_|refine zO ?_|refine Ob.auto ?_|(refine Ob.intro (by (first|exact ⟨by omega,by omega⟩|exact ⟨by decide,qbk (by omega) (by omega)⟩)) ?_)|refine zD 300 ?_|(apply zB <;> intro hb <;> (try simp [-zd] at hb) <;> try (exfalso;omega))|refine Ob.intro ?_ ?_))
  have eV:qbu k.val ((k.trail.drop n).take (i+1))=((qbu k.val ((k.trail.drop n).take i)).set (k.trail.getD (n+i) 0) 0).set (ng (k.trail.getD (n+i) 0)) 0:=by
   rw [qvc k.trail n i (by omega),qva]
  have eR:qbm k.rea ((k.trail.drop n).take (i+1))=(qbm k.rea ((k.trail.drop n).take i)).set (k.trail.getD (n+i) 0 / 2) (-1):=by
   rw [qvc k.trail n i (by omega),qvb]
  ((conv=>whnf);refine ⟨i+1,by omega,⟨subA,by
   rw [eV,eR]
   repeat' (first|exact trivial|exact rfl|exact SoLe.refl _|exact Le.refl _|exact quz (by omega) (by omega) (by rw [qlk];exact hxv) (by rw [qlk];exact hng)|exact quy (by omega) (by rw [qpe];omega)|refine And.intro ?_ ?_)⟩,⟨qa,qa⟩,?_⟩;(first|omega|(dsimp only;omega)|skip))
 ·obtain rfl:i=k.trail.length - n:=by omega
  have hall:(k.trail.drop n).take (k.trail.length - n)=k.trail.drop n:=List.take_of_length_le (by simp)
  rw [hall]
  (repeat' ((conv=>whnf);first|refine zA ?_|refine zO ?_|refine Ob.auto ?_|refine zI ?_|refine zD 300 ?_|(apply zB <;> intro hb <;> (try simp [-zd] at hb) <;> try (exfalso;omega))|refine Ob.intro ?_ ?_))
  refine ⟨Le.refl _,?_⟩
  repeat' (first|exact trivial|exact rfl|exact SoLe.refl _|exact Le.refl _|exact takeN n|refine And.intro ?_ ?_)
end Go.Proofs.Ytkhdldncbmkidaa
end
