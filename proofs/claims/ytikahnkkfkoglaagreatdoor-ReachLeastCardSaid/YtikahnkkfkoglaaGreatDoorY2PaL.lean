/- Contracts of the document's parser: trees laid out, how deep they are. -/
import Derived.Test.YtikahnkkfkoglaaGreatDoorY2Pa9
import Derived.Test.YtikahnkkfkoglaaGreatDoorY22
set_option linter.unusedSimpArgs false
set_option linter.unusedVariables false
namespace Go.Proofs.YtikahnkkfkoglaaGreatDoor
open List renaming getD_eq_getElem?_getD → zd
open Go Go.Sx Go.RowKit Go.St Pa
set_option maxRecDepth 100000
set_option maxHeartbeats 8000000
theorem Pa.Tr.size_kid:∀ {l:List Tr} {t:Tr},t∈l→t.size≤Tr.sizeL l
 | x::r,t,h=>by
  rw [Tr.sizeL]
  rcases List.mem_cons.1 h with rfl|h
  ·omega
  ·have:=Tr.size_kid h
   omega
theorem Pa.Tr.size_eq (t:Tr):t.size=1+Tr.sizeL t.l:=by cases t;rw [Tr.size];rfl
theorem juo {l:List Tr} {i:Nat} (h:i<l.length):l.getD i Tr.none∈l:=by
 rw [zd,ze h];exact zaa h
theorem Pa.Tr.drop_cons {l:List Tr} {i:Nat} (h:i<l.length):l.drop i=l.getD i Tr.none::l.drop (i+1):=by
 rw [zaz h,zd,ze h];rfl
theorem Pa.Tr.size_len:∀ l:List Tr,l.length≤Tr.sizeL l
 | []=>zv _
 | t::r=>by have:=Tr.size_len r;rw [Tr.sizeL,xg,t.size_eq];omega
theorem qyd {A B:List AV} {K:List AV→Prop} (h:A=B) (k:qet B K):qet A K:=h ▸ k
theorem jup:∀ (N:Nat) (t:Tr) (n:Int),t.size≤N→t.size≤100000→0≤n→n≤21→Con Tryz.prog 38 [t.av,iv n] (iv (deepT t n)):=by
 intro N
 induction N with
 | zero=>intro t n h;have:=t.size_eq;omega
 | succ N ih=>
  intro t n hN hM hn0 hn
  obtain ⟨k,w,ns,a,l⟩:=t
  have hS:Tr.sizeL l≤N∧Tr.sizeL l≤100000:=by
   rw [Tr.size_eq] at hN hM
   have:Tr.sizeL (Tr.mk k w ns a l).l=Tr.sizeL l:=rfl
   omega
  have hlen:=Tr.size_len l
  refine zK {} 300 Tryz.func38 (fun c0 rdb=>?_)
  (repeat' ((conv=>whnf);first|refine Ob.auto ?_|(apply zB <;> intro hb <;> (try simp [-zd] at hb) <;> try (exfalso;omega))))
  ·have e:deepT (.mk k w ns a l) n=a:=by rw [deepT,zb (by assumption)]
   rw [e]
   exact Le.refl _
  have e:deepT (.mk k w ns a l) n=deepL l n:=by rw [deepT,za (by omega)]
  rw [e]
  (conv=>whnf)
  ((conv=>whnf);refine qm (fun _=>rfl) 300 1 (fun i:Nat=>[(5,iv i)]) (fun _=>[]) (fun i=>i≤l.length∧deepL (l.drop i) n=deepL l n) (fun i=>l.length - i) (0) (⟨zv _,rfl⟩) qa qa (fun _=>rfl) (by kernel_rfl) ?_;(conv=>whnf))
  intro i hi'
  obtain ⟨hi,hd⟩:=hi'
  (repeat' ((conv=>whnf);first|refine Ob.auto ?_|(apply zB <;> intro hb <;> (try simp [-zd] at hb) <;> try (exfalso;omega))))
  ·have hil:i<l.length:=by assumption
   refine qyd (B:=(l.getD i Tr.none).cells) (Tr.cellsL_get l i hil) ?_
   have hs:=Tr.size_kid (juo hil)
   rw [Tr.drop_cons hil,deepL] at hd
   (repeat' ((conv=>whnf);first|refine Ob.auto ?_|refine zC 300 (ih (l.getD i Tr.none) (n+1) (by omega) (by omega) (by omega) (by omega)) ?_|(apply zB <;> intro hb <;> (try simp [-zd] at hb) <;> try (exfalso;omega))))
   ·rw [zb (by assumption)] at hd
    exact Le.of_eq (congrArg iv hd)
   ·rw [za (by omega)] at hd
    ((conv=>whnf);refine ⟨i+1,⟨hil,hd⟩,⟨qa,qa⟩,⟨qa,qa⟩,?_⟩;(first|omega|(dsimp only;omega)|skip))
  ·obtain rfl:i=l.length:=by
    have:(Tr.mk k w ns a l).l.length≤i:=by assumption
    have:l.length≤i:=this
    omega
   rw [List.drop_length,deepL] at hd
   exact Le.of_eq (congrArg iv hd)
mutual
theorem layT_len:∀ (n:Nat) (t:Tr),(layT n t).length=t.size
 | n,.mk k w ns a l=>by rw [layT,Tr.size,xg,layL_len (n+1) l];omega
theorem layL_len:∀ (n:Nat) (l:List Tr),(layL n l).length=Tr.sizeL l
 | _,[]=>rfl
 | n,t::r=>by rw [layL,Tr.sizeL,zg,layT_len n t,layL_len (n+t.size) r]
end
theorem qye:∀ (n:Nat) (l:List Tr),(js n l).length=l.length
 | _,[]=>rfl
 | n,t::r=>by rw [js,xg,xg,qye (n+t.size) r]
theorem qyf:∀ (n:Nat) (l:List Tr) (t:Tr),js n (l++[t])=js n l++[((n+Tr.sizeL l:Nat):Int)]
 | n,[],t=>rfl
 | n,x::r,t=>by
  rw [zac,js,qyf (n+x.size) r t,js,Tr.sizeL,zac,zbr]
theorem qyg:∀ (n:Nat) (l:List Tr) (t:Tr),layL n (l++[t])=layL n l++layT (n+Tr.sizeL l) t
 | n,[],t=>by simp [layL,Tr.sizeL]
 | n,x::r,t=>by
  rw [zac,layL,qyg (n+x.size) r t,layL,Tr.sizeL,zn,zbr]
theorem jgp {l:List Tr} {i:Nat} (h:i<l.length):l.take (i+1)=l.take i++[l.getD i Tr.none]:=by
 rw [zbb,zd,ze h];rfl
theorem qyh:∀ (l:List Tr) (i:Nat),i<l.length→Tr.sizeL (l.take i)+(l.getD i Tr.none).size≤Tr.sizeL l
 | t::r,0,_=>by simp [Tr.sizeL]
 | t::r,i+1,h=>by
  have:=qyh r i (by simpa using h)
  simp only [List.take_succ_cons,Tr.sizeL,List.getD_cons_succ]
  omega
theorem jgq (n:Nat) (f g:Nat→List AV):appF n f 1 g n=g 0:=by
 unfold appF;rw [za (zbm n),zb (by omega),zai]
theorem juq {n i:Nat} (h:i<n) (f g:Nat→List AV):appF n f 1 g i=f i:=by
 unfold appF;rw [zb h]
def lnd (ns:List Nd) (k:Int) (w:List (List UInt8)) (nu:List Int) (a:Int) (ks:List Int) (d:List Nd):List Nd:=ns++⟨k,w,nu,ks,a⟩::d
section
variable {ns:List Nd} {k a:Int} {w:List (List UInt8)} {nu ks:List Int} {d:List Nd}
theorem lnd_len:(lnd ns k w nu a ks d).length=ns.length+1+d.length:=by unfold lnd;rw [zg,xg];omega
theorem lnd_one:(lnd ns k w nu a ks []).length=ns.length+1:=lnd_len
theorem qij:(lnd ns k w nu a ks d).getD ns.length nd0=⟨k,w,nu,ks,a⟩:=by
 unfold lnd;rw [zd,zx (zl _),zai];rfl
theorem qyi {j:Nat} (h:j≠ns.length) (ks':List Int):(lnd ns k w nu a ks d).getD j nd0=(lnd ns k w nu a ks' d).getD j nd0:=by
 unfold lnd
 rw [zd,zd]
 by_cases hj:j<ns.length
 ·rw [zy hj,zy hj]
 ·rw [zx (by omega),zx (by omega)]
  obtain ⟨m,hm⟩:∃ m,j - ns.length=m+1:=⟨j - ns.length - 1,by omega⟩
  rw [hm];rfl
theorem qyj {j:Nat} (h:j<ns.length):(lnd ns k w nu a ks d).getD j nd0=ns.getD j nd0:=by
 unfold lnd
 rw [zd,zd,zy h]
end
def ndR (F:Nat) (ns:List Nd) (k:Nat):List AV:=
 [iv (ns.getD k nd0).kind,strs (ns.getD k nd0).words,ints (ns.getD k nd0).nums,.own F k 0 (ns.getD k nd0).kids.length,iv (ns.getD k nd0).at_]
def rowN (F:Nat) (ns:List Nd):SO:=.row [F] 99 5 0 ns.length (ndR F ns)
def famN (ns:List Nd):SO:=.fam 3 1 ns.length (fun _=>0) (fun k=>(ns.getD k nd0).kids.length) (fun k j=>[iv ((ns.getD k nd0).kids.getD j 0)])
theorem qts (L:List Nd):rowsLt 2 [(0,rowN 1 L),(1,famN L)]:=fun j ids e sz ep m f hl hne k hk=>by
 rw [ql] at hl
 split at hl
 ·cases hl
  rfl
 ·rw [ql] at hl
  split at hl
  ·cases hl
  ·cases hl
theorem jgr {F j:Nat} {L L':List Nd} (h:L.getD j nd0=L'.getD j nd0):ndR F L j=ndR F L' j:=by unfold ndR;rw [h]
theorem qyk {ι:Nat→Nat} {F:Nat} (hι:ι 1=F) {L:List Nd} {j:Nat}:(ndR 1 L j).map (AV.ren1 ι)=ndR F L j:=by
 show [iv (L.getD j nd0).kind,strs (L.getD j nd0).words,ints (L.getD j nd0).nums,.own (ι 1) j 0 (L.getD j nd0).kids.length,iv (L.getD j nd0).at_]=_
 rw [hι];rfl
theorem jgs {ns:List Nd} {k a:Int} {w:List (List UInt8)} {nu ks:List Int} {d:List Nd} {q:Nat} {x:Int} (hq:q=ks.length) (ι:Nat→Nat) {F:Nat} (hι:ι 1=F):∀ j,LeL (if j=ns.length then qaw (ndR F (lnd ns k w nu a ks d) ns.length) 3 [.own F ns.length 0 (q+1)] else ndR F (lnd ns k w nu a ks d) j)
  ((ndR 1 (lnd ns k w nu a (ks++[x]) d) j).map (AV.ren1 ι)):=by
 intro j
 refine LeL.of_eq ?_
 rw [qyk hι]
 by_cases h:j=ns.length
 ·rw [zb h,h]
  unfold ndR
  rw [qij,qij,hq]
  simp [qaw,zg]
 ·rw [za h]
  exact jgr (qyi h _)
theorem jgt {ns:List Nd} {k a:Int} {w:List (List UInt8)} {nu ks:List Int} {d:List Nd} {q:Nat} {x:Int} {g:Nat→List AV} (hq:q=ks.length) (hg:g 0=[iv x]) :
  SoLe (.fam 3 1 (lnd ns k w nu a ks d).length (upd (fun _=>0) ns.length 0) (upd (fun k'=>((lnd ns k w nu a ks d).getD k' nd0).kids.length) ns.length (q+1))
   (upd (fun k' j=>[iv (((lnd ns k w nu a ks d).getD k' nd0).kids.getD j 0)]) ns.length (appF q (fun j=>[iv (((lnd ns k w nu a ks d).getD ns.length nd0).kids.getD j 0)]) 1 g))) (famN (lnd ns k w nu a (ks++[x]) d)):=by
 have hl:(lnd ns k w nu a ks d).length=(lnd ns k w nu a (ks++[x]) d).length:=lnd_len.trans lnd_len.symm
 unfold famN
 rw [← hl]
 refine qgs (fun i _=>by unfold upd;split <;> rfl) (fun i _=>?_) (fun i j _ hj=>?_)
 ·unfold upd
  by_cases h:i=ns.length
  ·rw [zb h,h,qij,hq];simp
  ·rw [za h,qyi h]
 ·unfold upd at hj ⊢
  by_cases h:i=ns.length
  ·rw [zb h] at hj ⊢
   rw [h,qij,qij]
   simp only
   unfold appF
   by_cases hjq:j<q
   ·rw [zb hjq]
    show [iv (ks.getD j 0)]=[iv ((ks++[x]).getD j 0)]
    rw [zd,zd,zy (by omega)]
   ·rw [za hjq,zb (by omega)]
    obtain rfl:j=q:=by omega
    rw [zai,hg,hq,zd,zx (zl _),zai]
    rfl
  ·rw [za h,qyi h]
theorem jur {ns:List Nd} {k a:Int} {w:List (List UInt8)} {nu:List Int} {F:Nat} {g:Nat→List AV} (hg:g 0=[iv k,strs w,ints nu,.nils,iv a]):∀ j,j<ns.length+1→
  LeL (if j=ns.length then (appF ns.length (ndR F ns) 1 g ns.length).set 3 (.own F ns.length 0 0) else appF ns.length (ndR F ns) 1 g j) (ndR F (lnd ns k w nu a [] []) j):=fun j hj=>by
 refine LeL.of_eq ?_
 by_cases h:j=ns.length
 ·rw [zb h,h,jgq,hg]
  unfold ndR
  rw [qij]
  rfl
 ·rw [za h,juq (by omega)]
  exact jgr (qyj (by omega)).symm
theorem jus {ns:List Nd} {k a:Int} {w:List (List UInt8)} {nu:List Int}:SoLe (.fam 3 1 (ns.length+1) (fun k=>if k<ns.length then 0 else 0) (fun k=>if k<ns.length then (ns.getD k nd0).kids.length else 0) (fun k j=>[iv ((ns.getD k nd0).kids.getD j 0)]))
  (famN (lnd ns k w nu a [] [])):=by
 have hl:ns.length+1=(lnd ns k w nu a [] []).length:=lnd_one.symm
 unfold famN
 rw [← hl]
 refine qgs (fun i _=>by split <;> rfl) (fun i _=>?_) (fun i j _ hj=>?_)
 ·by_cases h:i<ns.length
  ·rw [zb h,qyj h]
  ·obtain rfl:i=ns.length:=by omega
   rw [za h,qij];rfl
 ·by_cases h:i<ns.length
  ·rw [qyj h]
  ·rw [za h] at hj;omega
theorem jgu {ns d d':List Nd} {k a:Int} {w:List (List UInt8)} {nu ks:List Int}:lnd ns k w nu a ks d++d'=lnd ns k w nu a ks (d++d'):=by
 unfold lnd;rw [zn];rfl
theorem jgv:100001 * (tab Tryz.prog 3).bytes≤140737488355328:=by decide +kernel
theorem jut:∀ (N:Nat) (t:Tr) (ns:List Nd),t.size≤N→t.size+ns.length≤100000→
  Trip Tryz.prog 37 [t.av,.own 0 0 0 ns.length] [rowN 1 ns,famN ns] (.own 0 0 0 (ns++layT ns.length t).length) [(0,rowN 1 (ns++layT ns.length t)),(1,famN (ns++layT ns.length t))] 2:=by
 intro N
 induction N with
 | zero=>intro t ns h;have:=t.size_eq;omega
 | succ N ih=>
  intro t ns hN hM
  obtain ⟨k,w,nu,a,l⟩:=t
  have hS:Tr.sizeL l≤N∧1+Tr.sizeL l+ns.length≤100000:=by
   rw [Tr.size_eq] at hN hM
   have:Tr.sizeL (Tr.mk k w nu a l).l=Tr.sizeL l:=rfl
   omega
  have hlen:=Tr.size_len l
  have hE2:ns++layT ns.length (.mk k w nu a l)=lnd ns k w nu a (js (ns.length+1) (l.take l.length)) (layL (ns.length+1) (l.take l.length)):=by
   rw [zay,layT];rfl
  rw [hE2]
  refine zL {} 300 Tryz.func37 (fun c0 rdb mpb=>?_)
  (repeat' ((conv=>whnf);first|refine Ob.auto ?_|fail))
  refine jco 0 1 3 rfl rfl (by rw [jgq];rfl) ?_
  ((conv=>whnf);refine qm (fun _=>rfl) 300 1 (fun i:Nat=>[(1,.own 0 0 0 (lnd ns k w nu a (js (ns.length+1) (l.take i)) (layL (ns.length+1) (l.take i))).length),(6,iv i)]) (fun i=>[(0,rowN 1 (lnd ns k w nu a (js (ns.length+1) (l.take i)) (layL (ns.length+1) (l.take i)))),(1,famN (lnd ns k w nu a (js (ns.length+1) (l.take i)) (layL (ns.length+1) (l.take i))))]) (fun i=>i≤l.length) (fun i=>l.length - i) (0) (zv _) ⟨Le.of_eq (congrArg (AV.own 0 0 0) lnd_one.symm),Le.refl _,trivial⟩ ⟨⟨⟨rfl,rfl,rfl⟩,rfl,lnd_one.symm,jur rfl⟩,jus,trivial⟩ (fun _=>rfl) (by kernel_rfl) ?_;(conv=>whnf))
  intro i hi
  have hsl:i<l.length→Tr.sizeL (l.take i)+(l.getD i Tr.none).size≤Tr.sizeL l:=fun h=>qyh l i h
  have hl1:=lnd_len (ns:=ns) (k:=k) (w:=w) (nu:=nu) (a:=a) (ks:=js (ns.length+1) (l.take i)) (d:=layL (ns.length+1) (l.take i))
  rw [layL_len] at hl1
  have hks:(js (ns.length+1) (l.take i)).length=i:=by rw [qye,xc];omega
  have hat:(lnd ns k w nu a (js (ns.length+1) (l.take i)) (layL (ns.length+1) (l.take i))).getD ns.length nd0=⟨k,w,nu,js (ns.length+1) (l.take i),a⟩:=qij
  have hkq:((lnd ns k w nu a (js (ns.length+1) (l.take i)) (layL (ns.length+1) (l.take i))).getD ns.length nd0).kids.length≤100000:=by rw [hat];simp only;omega
  (repeat' ((conv=>whnf);first|refine Ob.auto ?_|(apply zB <;> intro hb <;> (try simp [-zd] at hb) <;> try (exfalso;omega))|refine Ob.intro ?_ ?_|fail))
  ·refine ⟨(show ns.length < _ by omega),⟨rfl,rfl⟩,(show (_:Nat)+1≤_ from xa (Nat.succ_le_succ hkq) (by decide)),xa (zu _ (Nat.succ_le_succ hkq)) jgv⟩
  ·refine ⟨⟨⟨rfl,rfl⟩,(show ns.length<(lnd ns k w nu a (js (ns.length+1) (l.take i)) (layL (ns.length+1) (l.take i))).length by omega)⟩,(show ns.length<(lnd ns k w nu a (js (ns.length+1) (l.take i)) (layL (ns.length+1) (l.take i))).length by omega),by simp [upd],by simp [upd]⟩
  ·have hil:i<l.length:=by assumption
   refine qyd (B:=(l.getD i Tr.none).cells) (Tr.cellsL_get l i hil) ?_
   have hl2:=lnd_len (ns:=ns) (k:=k) (w:=w) (nu:=nu) (a:=a) (ks:=js (ns.length+1) (l.take i)++[((ns.length+1+Tr.sizeL (l.take i):Nat):Int)]) (d:=layL (ns.length+1) (l.take i))
   rw [layL_len] at hl2
   (conv=>whnf)
   refine qgq (fun _=>rfl) 300 [0,1] (ih (l.getD i Tr.none) (lnd ns k w nu a (js (ns.length+1) (l.take i)++[((ns.length+1+Tr.sizeL (l.take i):Nat):Int)]) (layL (ns.length+1) (l.take i))) (by have:=hsl hil;omega) (by have:=hsl hil;omega)) (by kernel_rfl) ⟨Le.refl _,Le.of_eq (congrArg (AV.own 0 0 0) (hl1.trans hl2.symm)),trivial⟩
    ⟨⟨⟨rfl,rfl,rfl⟩,rfl,hl1.trans hl2.symm,fun j _=>jgs (congrArg (fun n=>n.kids.length) hat) _ rfl j⟩,jgt (congrArg (fun n=>n.kids.length) hat) (congrArg (fun n:Nat=>[iv n]) hl1),trivial⟩ (qts _) (qts _) (by kernel_rfl) ?_
   have hE:lnd ns k w nu a (js (ns.length+1) (l.take i)++[((ns.length+1+Tr.sizeL (l.take i):Nat):Int)]) (layL (ns.length+1) (l.take i)) ++
     layT (lnd ns k w nu a (js (ns.length+1) (l.take i)++[((ns.length+1+Tr.sizeL (l.take i):Nat):Int)]) (layL (ns.length+1) (l.take i))).length (l.getD i Tr.none) =
     lnd ns k w nu a (js (ns.length+1) (l.take (i+1))) (layL (ns.length+1) (l.take (i+1))):=by
    rw [jgu,hl2,jgp hil,qyf,qyg]
   rw [hE]
   (repeat' ((conv=>whnf);first|refine Ob.auto ?_|fail))
   ((conv=>whnf);refine ⟨i+1,hil,⟨qa,⟨⟨⟨rfl,rfl,rfl⟩,rfl,rfl,fun j _=>LeL.of_eq (qyk rfl)⟩,SoLe.refl _,trivial⟩⟩,⟨qa,qa⟩,?_⟩;(first|omega|(dsimp only;omega)|skip))
  ·obtain rfl:i=l.length:=by
    have:(Tr.mk k w nu a l).l.length≤i:=by assumption
    have:l.length≤i:=this
    omega
   exact ⟨Le.refl _,qa⟩
theorem rowsM (L:List Nd):rowsLt 3 [(1,rowN 2 L),(2,famN L)]:=fun j ids e sz ep m f hl hne k hk=>by
 rw [ql] at hl
 split at hl
 ·cases hl
  rfl
 ·rw [ql] at hl
  split at hl
  ·cases hl
  ·cases hl
theorem juu {k a:Int} {w:List (List UInt8)} {nu:List Int} {F:Nat} {g:Nat→List AV} (hg:g 0=[iv k,strs w,ints nu,.nils,iv a]):∀ j,j<1→
  LeL (if j=0 then (g 0).set 3 (.own F 0 0 0) else g j) (ndR F (lnd [] k w nu a [] []) j):=fun j hj=>by
 obtain rfl:j=0:=by omega
 rw [zb rfl,hg]
 exact LeL.of_eq rfl
theorem juv {k a:Int} {w:List (List UInt8)} {nu:List Int}:SoLe (.fam 3 1 (0+1) (fun k=>if k<0 then 0 else 0) (fun k=>if k<0 then 0 else 0) (fun _ _=>[]))
  (famN (lnd [] k w nu a [] [])):=by
 refine qgs (fun i _=>by split <;> rfl) (fun i hi=>?_) (fun i j hi hj=>?_)
 ·obtain rfl:i=0:=by omega
  rfl
 ·rw [za (zh i)] at hj;omega
theorem juw (t:Tr) (hM:t.size≤100000) :
  Trip Tryz.prog 37 [t.av,.nils] [] (.own 1 0 0 (layT 0 t).length) [(1,rowN 2 (layT 0 t)),(2,famN (layT 0 t))] 3:=by
 obtain ⟨k,w,nu,a,l⟩:=t
 have hS:1+Tr.sizeL l≤100000:=by
  rw [Tr.size_eq] at hM
  exact hM
 have hlen:=Tr.size_len l
 have hE2:layT 0 (.mk k w nu a l)=lnd [] k w nu a (js 1 (l.take l.length)) (layL 1 (l.take l.length)):=by
  rw [zay,layT];rfl
 rw [hE2]
 refine zL {} 300 Tryz.func37 (fun c0 rdb mpb=>?_)
 (repeat' ((conv=>whnf);first|refine Ob.auto ?_|fail))
 refine jcp 1 3 1 rfl ?_
 (conv=>whnf)
 refine jco 1 2 3 rfl rfl rfl ?_
 ((conv=>whnf);refine qm (fun _=>rfl) 300 1 (fun i:Nat=>[(1,.own 1 0 0 (lnd [] k w nu a (js 1 (l.take i)) (layL 1 (l.take i))).length),(6,iv i)]) (fun i=>[(1,rowN 2 (lnd [] k w nu a (js 1 (l.take i)) (layL 1 (l.take i)))),(2,famN (lnd [] k w nu a (js 1 (l.take i)) (layL 1 (l.take i))))]) (fun i=>i≤l.length) (fun i=>l.length - i) (0) (zv _) ⟨Le.refl _,Le.refl _,trivial⟩ ⟨⟨⟨rfl,rfl,rfl⟩,rfl,rfl,juu rfl⟩,juv,trivial⟩ (fun _=>rfl) (by kernel_rfl) ?_;(conv=>whnf))
 intro i hi
 have hsl:i<l.length→Tr.sizeL (l.take i)+(l.getD i Tr.none).size≤Tr.sizeL l:=fun h=>qyh l i h
 have hl1:=lnd_len (ns:=[]) (k:=k) (w:=w) (nu:=nu) (a:=a) (ks:=js 1 (l.take i)) (d:=layL 1 (l.take i))
 rw [layL_len,zap,zo] at hl1
 have hks:(js 1 (l.take i)).length=i:=by rw [qye,xc];omega
 have hat:(lnd [] k w nu a (js 1 (l.take i)) (layL 1 (l.take i))).getD 0 nd0=⟨k,w,nu,js 1 (l.take i),a⟩:=qij
 have hkq:((lnd [] k w nu a (js 1 (l.take i)) (layL 1 (l.take i))).getD 0 nd0).kids.length≤100000:=by rw [hat];simp only;omega
 (repeat' ((conv=>whnf);first|refine Ob.auto ?_|(apply zB <;> intro hb <;> (try simp [-zd] at hb) <;> try (exfalso;omega))|refine Ob.intro ?_ ?_|fail))
 ·refine ⟨(show 0 < _ by omega),⟨rfl,rfl⟩,(show (_:Nat)+1≤_ from xa (Nat.succ_le_succ hkq) (by decide)),xa (zu _ (Nat.succ_le_succ hkq)) jgv⟩
 ·have hil:i<l.length:=by assumption
  refine qyd (B:=(l.getD i Tr.none).cells) (Tr.cellsL_get l i hil) ?_
  have hl2:=lnd_len (ns:=[]) (k:=k) (w:=w) (nu:=nu) (a:=a) (ks:=js 1 (l.take i)++[((1+Tr.sizeL (l.take i):Nat):Int)]) (d:=layL 1 (l.take i))
  rw [layL_len,zap,zo] at hl2
  (conv=>whnf)
  refine qgq (fun _=>rfl) 300 [1,2] (jut _ (l.getD i Tr.none) (lnd [] k w nu a (js 1 (l.take i)++[((1+Tr.sizeL (l.take i):Nat):Int)]) (layL 1 (l.take i))) (zl _) (by have:=hsl hil;omega)) (by kernel_rfl) ⟨Le.refl _,Le.of_eq (congrArg (AV.own 1 0 0) (hl1.trans hl2.symm)),trivial⟩
   ⟨⟨⟨rfl,rfl,rfl⟩,rfl,hl1.trans hl2.symm,fun j _=>jgs (ns:=[]) (F:=2) (congrArg (fun n=>n.kids.length) hat) _ rfl j⟩,jgt (ns:=[]) (congrArg (fun n=>n.kids.length) hat) (congrArg (fun n:Nat=>[iv n]) hl1),trivial⟩ (qts _) (qts _) (by kernel_rfl) ?_
  have hE:lnd [] k w nu a (js 1 (l.take i)++[((1+Tr.sizeL (l.take i):Nat):Int)]) (layL 1 (l.take i)) ++
    layT (lnd [] k w nu a (js 1 (l.take i)++[((1+Tr.sizeL (l.take i):Nat):Int)]) (layL 1 (l.take i))).length (l.getD i Tr.none) =
    lnd [] k w nu a (js 1 (l.take (i+1))) (layL 1 (l.take (i+1))):=by
   rw [jgu,hl2,jgp hil,qyf,qyg]
  rw [hE]
  (repeat' ((conv=>whnf);first|refine Ob.auto ?_|fail))
  ((conv=>whnf);refine ⟨i+1,hil,⟨qa,⟨⟨⟨rfl,rfl,rfl⟩,rfl,rfl,fun j _=>LeL.of_eq (qyk rfl)⟩,SoLe.refl _,trivial⟩⟩,⟨qa,qa⟩,?_⟩;(first|omega|(dsimp only;omega)|skip))
 ·obtain rfl:i=l.length:=by
   have:(Tr.mk k w nu a l).l.length≤i:=by assumption
   have:l.length≤i:=this
   omega
  exact ⟨Le.refl _,qa⟩
end Go.Proofs.YtikahnkkfkoglaaGreatDoor
