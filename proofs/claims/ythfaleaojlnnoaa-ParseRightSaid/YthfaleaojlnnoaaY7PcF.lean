/- Contracts of the program's parser: trees laid out. -/
import Derived.Test.YthfaleaojlnnoaaY7PcB
import Derived.Test.YthfaleaojlnnoaaY79
import Derived.Test.YthfaleaojlnnoaaY72
set_option linter.unusedSimpArgs false
set_option linter.unusedVariables false
namespace Go.Proofs.Ythfaleaojlnnoaa
open List renaming getD_eq_getElem?_getD → zd
open Go Go.Sx Go.RowKit Go.St Pa
set_option maxRecDepth 100000
set_option maxHeartbeats 8000000
theorem jba {A B:AV} {K:AV→Prop} (h:A=B) (k:frc B K):frc A K:=h ▸ k
abbrev boxL (x:AV):SO:=.box 23 [x]
abbrev boxW:SO:=.box 75 [.fn 36 [.ptr 0 0,.ptr 1 0]]
theorem qqf (x:AV) (L:List Nd):rowsLt 4 [(0,boxL x),(1,boxW),(2,rowN 3 L),(3,famN L)]:=fun j ids e sz ep m f hl hne k hk=>by
 rw [qq] at hl
 split at hl
 ·cases hl
 rw [qq] at hl
 split at hl
 ·cases hl
 rw [qq] at hl
 split at hl
 ·cases hl
  rfl
 rw [qq] at hl
 split at hl
 ·cases hl
 ·cases hl
theorem jnl {ι:Nat→Nat} {F:Nat} (hι:ι 3=F) {L:List Nd} {j:Nat}:(ndR 3 L j).map (AV.ren1 ι)=ndR F L j:=by
 show [iv _,strs _,ints _,AV.own (ι 3) j 0 (L.getD j nd0).kids.length,iv (L.getD j nd0).at_]=_
 rw [hι];rfl
theorem jbb {ns:List Nd} {k a:Int} {w:List (List UInt8)} {nu ks ks':List Int} {d:List Nd} {q F:Nat} {x:Int} (hk:ks'=ks++[x]) (hq:q=ks.length):∀ j,LeL (if j=ns.length then qbn (ndR F (lnd ns k w nu a ks d) ns.length) 3 [.own F ns.length 0 (q+1)] else ndR F (lnd ns k w nu a ks d) j)
  (ndR F (lnd ns k w nu a ks' d) j):=by
 subst hk
 intro j
 refine LeL.of_eq ?_
 by_cases h:j=ns.length
 ·rw [zb h,h]
  unfold ndR
  rw [qgs,qgs,hq]
  simp [qbn,xa]
 ·rw [za h]
  exact qzp (qtx h _)
theorem jbc {ns:List Nd} {k a:Int} {w:List (List UInt8)} {nu ks ks':List Int} {d:List Nd} {q:Nat} {x:Int} {g:Nat→List AV} (hk:ks'=ks++[x]) (hq:q=ks.length) (hg:g 0=[iv x]) :
  SoLe (.fam 3 1 (lnd ns k w nu a ks d).length (upd (fun _=>0) ns.length 0) (upd (fun k'=>((lnd ns k w nu a ks d).getD k' nd0).kids.length) ns.length (q+1))
   (upd (fun k' j=>[iv (((lnd ns k w nu a ks d).getD k' nd0).kids.getD j 0)]) ns.length (appF q (fun j=>[iv (((lnd ns k w nu a ks d).getD ns.length nd0).kids.getD j 0)]) 1 g))) (famN (lnd ns k w nu a ks' d)):=by
 subst hk
 exact jke hq hg
theorem jnm:∀ (N:Nat) (t:Tr) (ns:List Nd),t.size≤N→t.size+ns.length≤100000→
  Trip Try.prog 36 [t.pv,.ptr 0 0,.ptr 1 0] [boxL (.own 2 0 0 ns.length),boxW,rowN 3 ns,famN ns] (iv ns.length) [(0,boxL (.own 2 0 0 (ns++layT ns.length t).length)),(1,boxW),(2,rowN 3 (ns++layT ns.length t)),(3,famN (ns++layT ns.length t))] 4:=by
 intro N
 induction N with
 | zero=>intro t ns h;have:=t.size_eq;omega
 | succ N ih=>
  intro t ns hN hM
  obtain ⟨k,w,nu,a,l⟩:=t
  have hS:Tr.sizeL l≤N∧1+Tr.sizeL l+ns.length≤100000:=by
   rw [Tr.size_eq] at hN hM
   have:Tr.sizeL (Tr.mk k w nu a l).l=Tr.sizeL l:=rfl
   omega
  have hlen:=Tr.size_len l
  have hE2:ns++layT ns.length (.mk k w nu a l)=lnd ns k w nu a (qx (ns.length+1) (l.take l.length)) (layL (ns.length+1) (l.take l.length)):=by
   rw [zam,layT];rfl
  rw [hE2]
  refine zL {} 300 Try.func36 (fun c0 rdb mpb=>?_)
  (repeat' ((conv=>whnf);first|refine zA ?_|refine zO ?_|refine Ob.auto ?_|(refine Ob.intro (by (exact ⟨⟨rfl,rfl⟩,by omega,by omega⟩)) ?_)|refine zD 300 ?_|(apply zB <;> intro hb <;> (try simp [-zd] at hb) <;> try (exfalso;omega))|refine Ob.intro ?_ ?_))
  refine qzn 2 3 3 rfl rfl (by rw [qzo];rfl) ?_
  ((conv=>whnf);refine qbb (fun _=>rfl) 300 1 (fun i:Nat=>[(23,iv i)]) (fun i=>[(0,boxL (.own 2 0 0 (lnd ns k w nu a (qx (ns.length+1) (l.take i)) (layL (ns.length+1) (l.take i))).length)),(2,rowN 3 (lnd ns k w nu a (qx (ns.length+1) (l.take i)) (layL (ns.length+1) (l.take i)))),(3,famN (lnd ns k w nu a (qx (ns.length+1) (l.take i)) (layL (ns.length+1) (l.take i))))]) (fun i=>i≤l.length) (fun i=>l.length - i) (0) (xv _) qa ⟨⟨rfl,Le.of_eq (congrArg (AV.own 2 0 0) lnd_one.symm),trivial⟩,⟨⟨rfl,rfl,rfl⟩,rfl,lnd_one.symm,jkf rfl⟩,jkg,trivial⟩ (fun _=>rfl) (by kernel_rfl) ?_;(conv=>whnf))
  intro i hi
  have hsl:i<l.length→Tr.sizeL (l.take i)+(l.getD i Tr.none).size≤Tr.sizeL l:=fun h=>qtw l i h
  have hl1:=lnd_len (ns:=ns) (k:=k) (w:=w) (nu:=nu) (a:=a) (ks:=qx (ns.length+1) (l.take i)) (d:=layL (ns.length+1) (l.take i))
  rw [layL_len] at hl1
  have hks:(qx (ns.length+1) (l.take i)).length=i:=by rw [qpr,xr];omega
  (repeat' ((conv=>whnf);first|refine zA ?_|refine zO ?_|refine Ob.auto ?_|(refine Ob.intro (by (exact qv (by omega) (by omega))) ?_)|refine zD 300 ?_|(apply zB <;> intro hb <;> (try simp [-zd] at hb) <;> try (exfalso;omega))|refine Ob.intro ?_ ?_))
  ·have hil:i<l.length:=by assumption
   refine jba (A:=.rptr [(Tr.pvL l).getD i .nilp]) (B:=.rptr [(l.getD i Tr.none).pv]) (congrArg (fun x=>AV.rptr [x]) (Tr.pvL_get l i hil)) ?_
   (repeat' ((conv=>whnf);first|refine zA ?_|refine zO ?_|refine Ob.auto ?_|(refine Ob.intro (by (exact qv (by omega) (by omega))) ?_)|refine zD 300 ?_|(apply zB <;> intro hb <;> (try simp [-zd] at hb) <;> try (exfalso;omega))|refine Ob.intro ?_ ?_))
   (conv=>whnf)
   refine qip (fun _=>rfl) 300 [0,1,2,3] (ih (l.getD i Tr.none) (lnd ns k w nu a (qx (ns.length+1) (l.take i)) (layL (ns.length+1) (l.take i))) (by have:=hsl hil;omega) (by have:=hsl hil;omega)) (by kernel_rfl) leA
    ⟨SoLe.refl _,SoLe.refl _,SoLe.refl _,SoLe.refl _,trivial⟩ (qqf _ _) (qqf _ _) (by kernel_rfl) ?_
   have hE:lnd ns k w nu a (qx (ns.length+1) (l.take i)) (layL (ns.length+1) (l.take i)) ++
     layT (lnd ns k w nu a (qx (ns.length+1) (l.take i)) (layL (ns.length+1) (l.take i))).length (l.getD i Tr.none) =
     lnd ns k w nu a (qx (ns.length+1) (l.take i)) (layL (ns.length+1) (l.take (i+1))):=by
    rw [qzq,hl1,qps hil,qtv]
   rw [hE]
   have hl3:=lnd_len (ns:=ns) (k:=k) (w:=w) (nu:=nu) (a:=a) (ks:=qx (ns.length+1) (l.take i)) (d:=layL (ns.length+1) (l.take (i+1)))
   rw [layL_len] at hl3
   have hat:(lnd ns k w nu a (qx (ns.length+1) (l.take i)) (layL (ns.length+1) (l.take (i+1)))).getD ns.length nd0=⟨k,w,nu,qx (ns.length+1) (l.take i),a⟩:=qgs
   have hkq:((lnd ns k w nu a (qx (ns.length+1) (l.take i)) (layL (ns.length+1) (l.take (i+1)))).getD ns.length nd0).kids.length≤100000:=by rw [hat];simp only;omega
   have hkn:qx (ns.length+1) (l.take (i+1))=qx (ns.length+1) (l.take i)++[((ns.length+1+Tr.sizeL (l.take i):Nat):Int)]:=by rw [qps hil,qtu]
   (repeat' ((conv=>whnf);first|refine zA ?_|refine zO ?_|refine Ob.auto ?_|(refine Ob.intro (by (exact qv (by omega) (by omega))) ?_)|refine zD 300 ?_|(apply zB <;> intro hb <;> (try simp [-zd] at hb) <;> try (exfalso;omega))|refine Ob.intro ?_ ?_))
   ·refine ⟨(show ns.length < _ by omega),⟨rfl,rfl⟩,(show (_:Nat)+1≤_ from xb (Nat.succ_le_succ hkq) (by decide)),xb (zw _ (Nat.succ_le_succ hkq)) qzr⟩
   ·refine ⟨⟨⟨rfl,rfl⟩,(show ns.length<(lnd ns k w nu a (qx (ns.length+1) (l.take i)) (layL (ns.length+1) (l.take (i+1)))).length by omega)⟩,(show ns.length<(lnd ns k w nu a (qx (ns.length+1) (l.take i)) (layL (ns.length+1) (l.take (i+1)))).length by omega),by simp [upd],by simp [upd]⟩
   ((conv=>whnf);refine ⟨i+1,hil,⟨qa,⟨⟨rfl,Le.of_eq (congrArg (AV.own 2 0 0) (lnd_len.trans lnd_len.symm)),trivial⟩,⟨⟨rfl,rfl,rfl⟩,rfl,lnd_len.trans lnd_len.symm,fun j _=>jbb hkn (congrArg (fun n=>n.kids.length) hat) j⟩,jbc hkn (congrArg (fun n=>n.kids.length) hat) (congrArg (fun n:Nat=>[iv n]) hl1),trivial⟩⟩,⟨qa,qa⟩,?_⟩;(first|omega|(dsimp only;omega)|skip))
  ·obtain rfl:i=l.length:=by
    have:(Tr.mk k w nu a l).l.length≤i:=by assumption
    have:l.length≤i:=this
    omega
   exact ⟨Le.refl _,qa⟩
theorem rowsD (x:AV) (L:List Nd):rowsLt 11 [(0,boxL x),(1,boxW),(8,rowN 10 L),(10,famN L)]:=fun j ids e sz ep m f hl hne k hk=>by
 rw [qq] at hl
 split at hl
 ·cases hl
 rw [qq] at hl
 split at hl
 ·cases hl
 rw [qq] at hl
 split at hl
 ·cases hl
  rfl
 rw [qq] at hl
 split at hl
 ·cases hl
 ·cases hl
theorem jnn (t:Tr) (hM:t.size≤100000) :
  Trip Try.prog 36 [t.pv,.ptr 0 0,.ptr 1 0] [boxL .nils,boxW] (iv 0) [(0,boxL (.own 8 0 0 (layT 0 t).length)),(1,boxW),(8,rowN 10 (layT 0 t)),(10,famN (layT 0 t))] 11:=by
 obtain ⟨k,w,nu,a,l⟩:=t
 have hS:1+Tr.sizeL l≤100000:=by
  rw [Tr.size_eq] at hM
  exact hM
 have hlen:=Tr.size_len l
 have hE2:layT 0 (.mk k w nu a l)=lnd [] k w nu a (qx 1 (l.take l.length)) (layL 1 (l.take l.length)):=by
  rw [zam,layT];rfl
 rw [hE2]
 refine zL {} 300 Try.func36 (fun c0 rdb mpb=>?_)
 (repeat' ((conv=>whnf);first|refine zA ?_|refine zO ?_|refine Ob.auto ?_|(refine Ob.intro (by (exact ⟨⟨rfl,rfl⟩,by omega,by omega⟩)) ?_)|refine zD 300 ?_|(apply zB <;> intro hb <;> (try simp [-zd] at hb) <;> try (exfalso;omega))|refine Ob.intro ?_ ?_))
 refine jkc 8 3 1 rfl ?_
 (conv=>whnf)
 refine qzn 8 10 3 rfl rfl rfl ?_
 ((conv=>whnf);refine qbb (fun _=>rfl) 300 1 (fun i:Nat=>[(23,iv i)]) (fun i=>[(0,boxL (.own 8 0 0 (lnd [] k w nu a (qx 1 (l.take i)) (layL 1 (l.take i))).length)),(8,rowN 10 (lnd [] k w nu a (qx 1 (l.take i)) (layL 1 (l.take i)))),(10,famN (lnd [] k w nu a (qx 1 (l.take i)) (layL 1 (l.take i))))]) (fun i=>i≤l.length) (fun i=>l.length - i) (0) (xv _) qa ⟨⟨rfl,Le.refl _,trivial⟩,⟨⟨rfl,rfl,rfl⟩,rfl,rfl,jkh rfl⟩,jki,trivial⟩ (fun _=>rfl) (by kernel_rfl) ?_;(conv=>whnf))
 intro i hi
 have hsl:i<l.length→Tr.sizeL (l.take i)+(l.getD i Tr.none).size≤Tr.sizeL l:=fun h=>qtw l i h
 have hl1:=lnd_len (ns:=[]) (k:=k) (w:=w) (nu:=nu) (a:=a) (ks:=qx 1 (l.take i)) (d:=layL 1 (l.take i))
 rw [layL_len,List.length_nil,zn] at hl1
 have hks:(qx 1 (l.take i)).length=i:=by rw [qpr,xr];omega
 (repeat' ((conv=>whnf);first|refine zA ?_|refine zO ?_|refine Ob.auto ?_|(refine Ob.intro (by (exact qv (by omega) (by omega))) ?_)|refine zD 300 ?_|(apply zB <;> intro hb <;> (try simp [-zd] at hb) <;> try (exfalso;omega))|refine Ob.intro ?_ ?_))
 ·have hil:i<l.length:=by assumption
  refine jba (A:=.rptr [(Tr.pvL l).getD i .nilp]) (B:=.rptr [(l.getD i Tr.none).pv]) (congrArg (fun x=>AV.rptr [x]) (Tr.pvL_get l i hil)) ?_
  (repeat' ((conv=>whnf);first|refine zA ?_|refine zO ?_|refine Ob.auto ?_|(refine Ob.intro (by (exact qv (by omega) (by omega))) ?_)|refine zD 300 ?_|(apply zB <;> intro hb <;> (try simp [-zd] at hb) <;> try (exfalso;omega))|refine Ob.intro ?_ ?_))
  (conv=>whnf)
  refine qip (fun _=>rfl) 300 [0,1,8,10] (jnm _ (l.getD i Tr.none) (lnd [] k w nu a (qx 1 (l.take i)) (layL 1 (l.take i))) (zi _) (by have:=hsl hil;omega)) (by kernel_rfl) leA
   ⟨SoLe.refl _,SoLe.refl _,⟨⟨rfl,rfl,rfl⟩,rfl,rfl,fun j _=>LeL.of_eq (jnl (ι:=names [0,1,8,10] (9+1+1)) (F:=10) rfl).symm⟩,SoLe.refl _,trivial⟩ (qqf _ _) (qqf _ _) (by kernel_rfl) ?_
  have hE:lnd [] k w nu a (qx 1 (l.take i)) (layL 1 (l.take i)) ++
    layT (lnd [] k w nu a (qx 1 (l.take i)) (layL 1 (l.take i))).length (l.getD i Tr.none) =
    lnd [] k w nu a (qx 1 (l.take i)) (layL 1 (l.take (i+1))):=by
   rw [qzq,hl1,qps hil,qtv]
  rw [hE]
  have hl3:=lnd_len (ns:=[]) (k:=k) (w:=w) (nu:=nu) (a:=a) (ks:=qx 1 (l.take i)) (d:=layL 1 (l.take (i+1)))
  rw [layL_len,List.length_nil,zn] at hl3
  have hat:(lnd [] k w nu a (qx 1 (l.take i)) (layL 1 (l.take (i+1)))).getD 0 nd0=⟨k,w,nu,qx 1 (l.take i),a⟩:=qgs
  have hkq:((lnd [] k w nu a (qx 1 (l.take i)) (layL 1 (l.take (i+1)))).getD 0 nd0).kids.length≤100000:=by rw [hat];simp only;omega
  have hkn:qx 1 (l.take (i+1))=qx 1 (l.take i)++[((1+Tr.sizeL (l.take i):Nat):Int)]:=by rw [qps hil,qtu]
  (repeat' ((conv=>whnf);first|refine zA ?_|refine zO ?_|refine Ob.auto ?_|(refine Ob.intro (by (exact qv (by omega) (by omega))) ?_)|refine zD 300 ?_|(apply zB <;> intro hb <;> (try simp [-zd] at hb) <;> try (exfalso;omega))|refine Ob.intro ?_ ?_))
  ·refine ⟨(show 0 < _ by omega),⟨rfl,rfl⟩,(show (_:Nat)+1≤_ from xb (Nat.succ_le_succ hkq) (by decide)),xb (zw _ (Nat.succ_le_succ hkq)) qzr⟩
  ((conv=>whnf);refine ⟨i+1,hil,⟨qa,⟨⟨rfl,Le.of_eq (congrArg (AV.own 8 0 0) (lnd_len.trans lnd_len.symm)),trivial⟩,⟨⟨rfl,rfl,rfl⟩,rfl,lnd_len.trans lnd_len.symm,fun j _=>jbb (F:=10) (ns:=[]) (k:=k) (w:=w) (a:=a) (nu:=nu) (ks:=qx 1 (l.take i)) (d:=layL 1 (l.take (i+1))) (q:=((lnd [] k w nu a (qx 1 (l.take i)) (layL 1 (l.take (i+1)))).getD 0 nd0).kids.length) hkn (congrArg (fun n=>n.kids.length) hat) j⟩,jbc (ns:=[]) (k:=k) (w:=w) (a:=a) (nu:=nu) (ks:=qx 1 (l.take i)) (d:=layL 1 (l.take (i+1))) (q:=((lnd [] k w nu a (qx 1 (l.take i)) (layL 1 (l.take (i+1)))).getD 0 nd0).kids.length) hkn (congrArg (fun n=>n.kids.length) hat) (congrArg (fun n:Nat=>[iv n]) hl1),trivial⟩⟩,⟨qa,qa⟩,?_⟩;(first|omega|(dsimp only;omega)|skip))
 ·obtain rfl:i=l.length:=by
   have:(Tr.mk k w nu a l).l.length≤i:=by assumption
   have:l.length≤i:=this
   omega
  exact ⟨Le.refl _,qa⟩
theorem jno {ι:Nat→Nat} {F G:Nat} (hι:ι F=G) {L:List Nd} {j:Nat}:(ndR F L j).map (AV.ren1 ι)=ndR G L j:=by
 show [iv _,strs _,ints _,AV.own (ι F) j 0 (L.getD j nd0).kids.length,iv (L.getD j nd0).at_]=_
 rw [hι];rfl
theorem jnp (t:Tr) (hM:t.size≤100000) :
  Trip Try.prog 20 [t.pv] [] (.own 8 0 0 (layT 0 t).length) [(8,rowN 10 (layT 0 t)),(10,famN (layT 0 t))] 11:=by
 refine zL {} 300 Try.func20 (fun c0 rdb mpb=>?_)
 (repeat' ((conv=>whnf);first|refine zA ?_|refine zO ?_|refine Ob.auto ?_|refine zD 300 ?_|(apply zB <;> intro hb <;> (try simp [-zd] at hb) <;> try (exfalso;omega))|refine Ob.intro ?_ ?_))
 (conv=>whnf)
 refine qip (fun _=>rfl) 300 [0,1] (jnn t hM) (by kernel_rfl) leA qa (by exact qb rfl) (rowsD _ _) (by kernel_rfl) ?_
 (repeat' ((conv=>whnf);first|refine zA ?_|refine zO ?_|refine Ob.auto ?_|refine zD 300 ?_|(apply zB <;> intro hb <;> (try simp [-zd] at hb) <;> try (exfalso;omega))|refine Ob.intro ?_ ?_))
 exact ⟨Le.refl _,⟨⟨rfl,rfl,rfl⟩,rfl,rfl,fun j _=>LeL.of_eq (jno (ι:=names [0,1] 2) rfl)⟩,SoLe.refl _,trivial⟩
end Go.Proofs.Ythfaleaojlnnoaa
