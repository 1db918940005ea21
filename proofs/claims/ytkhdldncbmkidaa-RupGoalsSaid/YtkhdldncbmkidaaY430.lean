/- Some texts of the library, one behind the other. -/
import Derived.Test.YtkhdldncbmkidaaY429
import Derived.Test.YtkhdldncbmkidaaY42
set_option linter.unusedSimpArgs false
set_option linter.unusedVariables false
section
namespace Go.Proofs.Ytkhdldncbmkidaa
open List renaming getD_eq_getElem?_getD → zd
open Go Go.Sx Go.RowKit Go.Ru Go.Cl
set_option maxRecDepth 100000
set_option maxHeartbeats 8000000
def bytU (l:List UInt8):Nat→List AV:=fun i=>[.int .u8 (((l.getD i 0).toNat:Nat):Int)]
theorem jhl (l:List UInt8):qav l.length (bytU l)=l:=by
 apply List.ext_getElem
 ·simp [qav]
 ·intro i h1 h2
  simp only [qav,List.getElem_map,List.getElem_range,bytU,qmy]
  rw [zd,zb h2]
  simp
theorem wrap8 (n:Int):IntKind.u8.wrap n=n % 256:=by simp [IntKind.wrap,IntKind.bits,IntKind.signed]
theorem shr8 (x:Nat):shrI .i64 (x:Int) 8=((x / 256:Nat):Int):=by
 show (x:Int).fdiv 256=_
 rw [Int.fdiv_eq_ediv_of_nonneg _ (by decide)]
 rfl
theorem shr16 (x:Nat):shrI .i64 (x:Int) 16=((x / 65536:Nat):Int):=by
 show (x:Int).fdiv 65536=_
 rw [Int.fdiv_eq_ediv_of_nonneg _ (by decide)]
 rfl
theorem qqp (x:Nat):IntKind.u8.wrap (x:Int)=(((UInt8.ofNat x).toNat:Nat):Int):=by
 rw [wrap8]
 simp
theorem jhm {l:List UInt8} {x:Nat} {j:Nat} (hj:j<l.length+3) :
  LeL (appF l.length (bytU l) 3 (chop (0+1) [AV.int .u8 (IntKind.u8.wrap (x:Int)),AV.int .u8 (IntKind.u8.wrap (shrI .i64 (x:Int) 8)),AV.int .u8 (IntKind.u8.wrap (shrI .i64 (x:Int) 16))]) j) (bytU (l++qdt x) j):=by
 refine LeL.of_eq ?_
 rw [shr8,shr16,qqp,qqp,qqp]
 unfold appF bytU
 by_cases h:j<l.length
 ·rw [za h,zd,zd,zo h]
 ·rw [ze h,za hj,zd (l:=l++_),zm (by omega)]
  have:j - l.length=0∨j - l.length=1∨j - l.length=2:=by omega
  rcases this with e|e|e <;> rw [e] <;> rfl
theorem qwy (c:List Int) (hr:rightB c=true) (hl:c.length≤100000):Con Try.prog 51 [ints c] (.str (keyN c)):=by
 refine zK {wraps:=[21,24,27]} 300 Try.func51 (fun c0 rdb=>?_)
 (repeat' ((conv=>whnf);first|refine zA ?_|refine zO ?_|refine Ob.auto ?_|(refine Ob.intro (by (first|exact ⟨by omega,by omega⟩|(refine ⟨by omega,by omega,by omega,?_⟩;dsimp only;refine Int.le_trans (Int.mul_le_mul_of_nonneg_right (?_:_≤(4000001:Int)) (zg _)) (by decide +kernel);omega))) ?_)|refine zD 300 ?_|(apply zB <;> intro hb <;> (try simp [-zd] at hb) <;> try (exfalso;omega))|refine Ob.intro ?_ ?_))
 ((conv=>whnf);refine jk (fun _=>rfl) 300 1 (fun i:Nat=>[(13,iv i),(3,.own 0 0 0 (keyN (c.take i)).length)]) (fun i=>[(0,.row [] 5 1 0 (keyN (c.take i)).length (bytU (keyN (c.take i))))]) (fun i=>i≤c.length) (fun i=>c.length - i) (0) (xa _) qa (by
  repeat' (first|exact trivial|exact rfl|exact Le.refl _|exact fun j hj=>absurd hj (zu _)|refine And.intro ?_ ?_)) (fun _=>rfl) (by kernel_rfl) ?_;(conv=>whnf))
 intro i hi
 by_cases hil:i<c.length
 ·have hlit:litB (c.getD i 0)=true:=List.all_eq_true.1 hr _ (qg hil)
  have hco:=qww (c.getD i 0) ((qdd _).1 hlit).2
  have hcs:=qqa hlit
  replace hlit:=Hid.in hlit
  have hkl:∀ j,(keyN (c.take j)).length≤3 * j:=fun j=>by
   have e:∀ d:List Int,(keyN d).length=3 * d.length:=fun d=>by
    induction d with
    | nil=>rfl
    | cons x d ih=>
     unfold keyN at ih ⊢
     rw [List.flatMap_cons,zj,ih]
     show 3+3 * d.length=3 * (d.length+1)
     omega
   rw [e,zr];omega
  have hki:=hkl i
  (repeat' ((conv=>whnf);first|refine zA ?_|refine zO ?_|refine Ob.auto ?_|(refine Ob.intro (by (first|exact ⟨by omega,by omega⟩|exact ⟨by omega,zt (zq _ (by omega:(keyN (c.take i)).length+3≤1000001)) (by decide +kernel)⟩)) ?_)|refine zC 300 (hco) ?_|refine zG 300 (fun hg=>hco) ?_|(refine CallY.con (hco) (by rfl) leA ?_)|(refine CallZ.con (fun hg=>hco) qp (by rfl) ?_)|(refine qv (fun _=>rfl) 300 (hco) qd (by (repeat' (first|exact trivial|exact Le.refl _|(refine And.intro ?_ ?_))) <;> fail) (by rfl) (by kernel_rfl) ?_)|(refine qw (fun _=>rfl) 300 (fun hg=>hco) (fun hg=>qd) (fun hg=>(by (repeat' (first|exact trivial|exact Le.refl _|exact Le.cnd hg|(refine And.intro ?_ ?_))) <;> fail)) (by rfl) (by kernel_rfl) ?_)|refine zD 300 ?_|(apply zB <;> intro hb <;> (try simp [-zd] at hb) <;> try (exfalso;omega))|refine Ob.intro ?_ ?_))
  have hnx:keyN (c.take (i+1))=keyN (c.take i)++qdt (jz (c.getD i 0)):=by
   unfold keyN
   rw [zat,zd,zb hil,List.flatMap_append]
   simp
  have hn3:(keyN (c.take i)++qdt (jz (c.getD i 0))).length=(keyN (c.take i)).length+3:=by rw [zj];rfl
  ((conv=>whnf);refine ⟨i+1,hil,⟨(by
   rw [hnx,hn3]
   (repeat' (first|exact trivial|exact rfl|exact Le.refl _|exact SoLe.refl _|refine And.intro ?_ ?_))),(by
   rw [hnx,hn3]
   repeat' (first|exact trivial|exact rfl|exact Le.refl _|exact fun j hj=>jhm hj|refine And.intro ?_ ?_))⟩,⟨qa,qa⟩,?_⟩;(first|omega|(dsimp only;omega)|skip))
 ·obtain rfl:i=c.length:=by omega
  rw [xi]
  (repeat' ((conv=>whnf);first|refine zA ?_|refine zO ?_|refine Ob.auto ?_|(refine Ob.intro (by (first|exact ⟨by omega,by omega⟩)) ?_)|refine zD 300 ?_|(apply zB <;> intro hb <;> (try simp [-zd] at hb) <;> try (exfalso;omega))|refine Ob.intro ?_ ?_))
  ·exact ⟨⟨rfl,rfl⟩,fun i _=>⟨_,rfl⟩⟩
  ·exact Le.of_eq (congrArg AV.str (jhl _))
set_option maxHeartbeats 4000000
theorem qcu {α:Type} {l:List α} {x d:α} (j:Nat):(l++[x]).getD j d=if j=l.length then x else l.getD j d:=by
 rw [zd,zd]
 by_cases h:j=l.length
 ·subst h
  rw [za rfl,zm (zi _),zag];rfl
 ·rw [ze h]
  by_cases h2:j<l.length
  ·rw [zo h2]
  ·rw [zw (by simp;omega),zw (l:=l) (by omega)]
def mvK (ks:List (List UInt8 × Nat)) (a:List (List Nat)) (b:Nat→Nat):List (Nat × (Nat × Nat)):=ks.map fun p=>(p.2,b p.2,(a.getD p.2 []).length)
theorem qhb {ks:List (List UInt8 × Nat)} {p:Nat} (h:p<ks.length):(ks.map fun q=>q.1)[p]?=some (ks.getD p ([],0)).1:=by
 rw [zl,zb h,zd,zb h];rfl
theorem qml {ks:List (List UInt8 × Nat)} {a:List (List Nat)} {b:Nat→Nat} {p:Nat} (h:p<ks.length):(mvK ks a b)[p]?=some ((ks.getD p ([],0)).2,b (ks.getD p ([],0)).2,(a.getD (ks.getD p ([],0)).2 []).length):=by
 unfold mvK
 rw [zl,zb h,zd,zb h];rfl
theorem qjc {k:K} {alive:Nat→Option (List UInt8)} (hL:Led k alive) {name:List UInt8} {p:Nat} (hp:p<k.keys.length) (hn:(k.keys.getD p ([],0)).1=name):∀ j,(k.keys.map fun q=>q.1)[j]?=some name→j=p:=fun j hj=>by
 have hjl:j<k.keys.length:=by
  have:=(List.getElem?_eq_some_iff.1 hj).1
  rwa [xp] at this
 rw [qhb hjl] at hj
 exact hL.one hjl hp ((Option.some.inj hj).trans hn.symm)
theorem qqq {k:K} {name:List UInt8} (h:seek k name=none):name ∉ k.keys.map fun q=>q.1:=fun hm=>by
 obtain ⟨e,he,hx⟩:=List.mem_map.1 hm
 obtain ⟨q,hq,rfl⟩:=qbb ([],0) he
 exact qqc h q hq hx
theorem qwz {k:K} {alive:Nat→Option (List UInt8)} (hL:Led k alive) {p:Nat} (hp:p<k.keys.length) {x:List Nat} {b:Nat→Nat} (hb:∀ j,j≠(k.keys.getD p ([],0)).2→b j=k.pe j) :
  (mvK k.keys k.pm k.pe).set p ((k.keys.getD p ([],0)).2,b (k.keys.getD p ([],0)).2,x.length)=mvK k.keys (k.pm.set (k.keys.getD p ([],0)).2 x) b:=by
 refine List.ext_getElem? fun j=>?_
 rw [zaz]
 by_cases hj:j<k.keys.length
 ·rw [qml hj,qml hj]
  by_cases e:p=j
  ·subst e
   rw [za rfl,za (by unfold mvK;rw [xp];exact hp),jb,za ⟨rfl,hL.kp p hp⟩]
  ·rw [ze e,jb,ze (fun h=>e (hL.two hp hj h.1.symm)),hb _ (fun h=>e (hL.two hp hj h.symm))]
 ·have h1:(mvK k.keys k.pm k.pe)[j]?=none:=zw (by unfold mvK;rw [xp];omega)
  have h2:(mvK k.keys (k.pm.set (k.keys.getD p ([],0)).2 x) b)[j]?=none:=zw (by unfold mvK;rw [xp];omega)
  rw [h1,h2,ze (by omega)]
structure NoteC (k:K) (name:List UInt8) (n:Nat) (a:List (List Nat)) (b:Nat→Nat) (q:Nat):Prop where
 ql:q<a.length
 le:∀ m,(∀ p,p<k.keys.length→(nums k p).length≤m)→(a.getD q []).length≤m
 eq:k.note name n={ k with keys:=(k.note name n).keys,pm:=a.set q (a.getD q []++[n]),pe:=b }
 find:∀ (s:ASt) (x y:Operand) (dst:Option Nat) (ty:TypeId) (pos:String) (aft:Array Edge) (gd:Option (Nat × Bool)),s.st=idx 0 (stK k)→ev s x=.mapv 3→ev s y=.str name→
  CusT Try.prog s ⟨dst,.lookup 55 x y false,ty,pos,aft,gd⟩ (.own 4 q (b q) (a.getD q []).length) (idx 0 (stK { k with pm:=a,pe:=b })) s.nx
 put:∀ (s:ASt) (x y z:Operand) (dst:Option Nat) (ty:TypeId) (pos:String) (aft:Array Edge) (gd:Option (Nat × Bool)),Go.Sx.look s.st 3=some (.box mapTy [.keys (k.keys.map fun p=>p.1),.mvals 4 (mvK k.keys a b)])→ev s x=.mapv 3→ev s y=.str name→ev s z=.own 4 q (b q) ((a.getD q []).length+1)→
  CusT Try.prog s ⟨dst,.mapUpdate 55 x y z,ty,pos,aft,gd⟩ .any (setSt s.st 3 (.box mapTy [.keys ((k.note name n).keys.map fun p=>p.1),.mvals 4 (mvK (k.note name n).keys (a.set q (a.getD q []++[n])) b)])) s.nx
theorem jho {k:K} {alive:Nat→Option (List UInt8)} (hL:Led k alive) (name:List UInt8) (n:Nat):∃ a b q,NoteC k name n a b q:=by
 cases hs:seek k name with
 | some p=>
  obtain ⟨hp,hn⟩:=qeq hs
  have he:k.note name n={ k with pm:=k.pm.set (k.keys.getD p ([],0)).2 (nums k p++[n]) }:=by
   unfold K.note;rw [hs]
  refine ⟨k.pm,k.pe,(k.keys.getD p ([],0)).2,hL.kp p hp,fun m hm=>hm p hp,by rw [he];rfl,fun s x y dst ty pos aft gd hst hx hy=>?_,fun s x y z dst ty pos aft gd hst hx hy hz=>?_⟩
  ·have h:=qul (P:=Try.prog) (T:=tab Try.prog) (s:=s) (dst:=dst) (ty:=ty) (pos:=pos) (aft:=aft) (gd:=gd) (b:=3) (q:=4) (ks:=k.keys.map fun p=>p.1) (l:=mvK k.keys k.pm k.pe) (key:=name) (kt:=9) (et:=23) (t:=55) (fun _=>rfl) hx hy (by rw [hst];rfl) rfl rfl (hn ▸ qhb hp) (qjc hL hp hn) (qml hp)
   rw [hst] at h
   exact h
  ·have h:=qun (P:=Try.prog) (T:=tab Try.prog) (s:=s) (dst:=dst) (ty:=ty) (pos:=pos) (aft:=aft) (gd:=gd) (b:=3) (q:=4) (ks:=k.keys.map fun p=>p.1) (l:=mvK k.keys k.pm k.pe) (key:=name) (kt:=9) (et:=23) (t:=55) (fun _=>rfl) hx hy hz hst rfl rfl (hn ▸ qhb hp) (qjc hL hp hn)
   rw [he]
   have e:=qwz hL hp (x:=nums k p++[n]) (b:=k.pe) (fun _ _=>rfl)
   rw [zj] at e
   have e2:(nums k p).length + [n].length=(k.pm.getD (k.keys.getD p ([],0)).2 []).length+1:=rfl
   rw [e2] at e
   rw [e] at h
   exact h
 | none=>
  have he:k.note name n={ k with keys:=k.keys++[(name,k.pm.length)],pm:=k.pm++[[n]],pe:=fun j=>if j<k.pm.length then k.pe j else 0 }:=by
   unfold K.note;rw [hs]
  have hq:(k.pm++[([]:List Nat)]).getD k.pm.length []=[]:=by rw [qcu,za rfl]
  have hset:(k.pm++[([]:List Nat)]).set k.pm.length ([]++[n])=k.pm++[[n]]:=by
   rw [List.set_append_right _ _ (zi _),zag];rfl
  have hmv:mvK k.keys (k.pm++[[]]) (fun j=>if j<k.pm.length then k.pe j else 0)=mvK k.keys k.pm k.pe:=by
   unfold mvK
   refine xh fun e hm=>?_
   obtain ⟨q,hq,rfl⟩:=qbb ([],0) hm
   have:=hL.kp q hq
   dsimp only
   rw [za this,qcu,ze (by omega)]
  refine ⟨k.pm++[[]],fun j=>if j<k.pm.length then k.pe j else 0,k.pm.length,by simp,fun m hm=>by rw [hq];exact xa _,by rw [hq,hset,he],fun s x y dst ty pos aft gd hst hx hy=>?_,fun s x y z dst ty pos aft gd hst hx hy hz=>?_⟩
  ·have h:=jes (P:=Try.prog) (T:=tab Try.prog) (s:=s) (dst:=dst) (ty:=ty) (pos:=pos) (aft:=aft) (gd:=gd) (b:=3) (q:=4) (ks:=k.keys.map fun p=>p.1) (l:=mvK k.keys k.pm k.pe) (key:=name) (kt:=9) (et:=23) (t:=55) (n:=k.pm.length) (ep:=k.pe) (len:=fun i=>(k.pm.getD i []).length) (f:=fun i=>encN (k.pm.getD i [])) (e0:=3) (sz:=1) (fun _=>rfl) hx hy (by rw [hst];rfl) (by rw [hst];rfl) rfl rfl (qqq hs) (by rfl)
   rw [hq,ze (Nat.lt_irrefl _)]
   refine h.turned (MT.st _ ?_)
   rw [hst]
   have hlen:(k.pm++[([]:List Nat)]).length=k.pm.length+1:=by simp
   have hln:∀ i,i<k.pm.length+1→(if i<k.pm.length then (k.pm.getD i []).length else 0)=((k.pm++[([]:List Nat)]).getD i []).length:=fun i hi=>by
    rw [qcu]
    by_cases e:i=k.pm.length
    ·rw [za e,ze (by omega)];rfl
    ·rw [ze e,za (by omega)]
   have hfm:∀ i,(k.pm++[([]:List Nat)]).getD i []=k.pm.getD i []:=fun i=>by
    rw [qcu]
    by_cases e:i=k.pm.length
    ·rw [za e,qde (by omega)]
    ·rw [ze e]
   have hmv':AV.mvals 4 (mvK k.keys k.pm k.pe)=AV.mvals 4 (mvK k.keys (k.pm++[[]]) (fun j=>if j<k.pm.length then k.pe j else 0)):=congrArg _ hmv.symm
   unfold stK boxK
   simp only [hlen]
   repeat' (first|exact trivial|exact rfl|exact Le.refl _|exact SoLe.refl _|exact Le.of_eq hmv'|exact fun i hi=>⟨rfl,hln i hi⟩|exact fun i j _ _=>LeL.of_eq (by dsimp only;rw [hfm])|refine And.intro ?_ ?_)
  ·have h:=jet (P:=Try.prog) (T:=tab Try.prog) (s:=s) (dst:=dst) (ty:=ty) (pos:=pos) (aft:=aft) (gd:=gd) (b:=3) (q:=4) (ks:=k.keys.map fun p=>p.1) (l:=mvK k.keys (k.pm++[[]]) (fun j=>if j<k.pm.length then k.pe j else 0)) (key:=name) (kt:=9) (et:=23) (t:=55) (fun _=>rfl) hx hy hz hst rfl rfl (qqq hs)
   rw [he,hq,hset]
   have e:mvK (k.keys++[(name,k.pm.length)]) (k.pm++[[n]]) (fun j=>if j<k.pm.length then k.pe j else 0)=mvK k.keys (k.pm++[[]]) (fun j=>if j<k.pm.length then k.pe j else 0)++[(k.pm.length,if k.pm.length<k.pm.length then k.pe k.pm.length else 0,((k.pm++[([]:List Nat)]).getD k.pm.length []).length+1)]:=by
    unfold mvK
    rw [zbk,xr,zbl,hq]
    congr 1
    ·refine xh fun e hm=>?_
     obtain ⟨q,hq,rfl⟩:=qbb ([],0) hm
     have:=hL.kp q hq
     rw [qcu,qcu,ze (by omega),ze (by omega)]
    ·rw [qcu,za rfl];rfl
   rw [← e] at h
   show CusT _ _ _ _ (setSt _ _ (.box mapTy [.keys ((k.keys++[(name,k.pm.length)]).map fun p=>p.1),_])) _
   rw [zbk]
   exact h
end Go.Proofs.Ytkhdldncbmkidaa
end
