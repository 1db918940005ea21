/- Contracts of the program's parser: trees laid out. -/
import Derived.Test.YthfaleaojlnnoaaY620
import Derived.Test.YthfaleaojlnnoaaY6PaL
import Derived.Test.YthfaleaojlnnoaaY62
set_option linter.unusedSimpArgs false
set_option linter.unusedVariables false
namespace Go.Proofs.Ythfaleaojlnnoaa
open List renaming getD_eq_getElem?_getD → zd
open Go Go.Sx Go.RowKit Go.St Pa
set_option maxRecDepth 100000
set_option maxHeartbeats 8000000
theorem jbv {A B:AV} {K:AV→Prop} (h:A=B) (k:frc B K):frc A K:=h ▸ k
abbrev boxL (x:AV):SO:=.box 23 [x]
abbrev boxW:SO:=.box 75 [.fn 36 [.ptr 0 0,.ptr 1 0]]
theorem qrb (x:AV) (L:List Nd):rowsLt 4 [(0,boxL x),(1,boxW),(2,rowN 3 L),(3,famN L)]:=fun j ids e sz ep m f hl hne k hk=>by
 rw [qt] at hl
 split at hl
 ·cases hl
 rw [qt] at hl
 split at hl
 ·cases hl
 rw [qt] at hl
 split at hl
 ·cases hl
  rfl
 rw [qt] at hl
 split at hl
 ·cases hl
 ·cases hl
theorem joo {ι:Nat→Nat} {F:Nat} (hι:ι 3=F) {L:List Nd} {j:Nat}:(ndR 3 L j).map (AV.ren1 ι)=ndR F L j:=by
 show [iv _,strs _,ints _,AV.own (ι 3) j 0 (L.getD j nd0).kids.length,iv (L.getD j nd0).at_]=_
 rw [hι];rfl
theorem jbw {ns:List Nd} {k a:Int} {w:List (List UInt8)} {nu ks ks':List Int} {d:List Nd} {q F:Nat} {x:Int} (hk:ks'=ks++[x]) (hq:q=ks.length):∀ j,LeL (if j=ns.length then qbi (ndR F (lnd ns k w nu a ks d) ns.length) 3 [.own F ns.length 0 (q+1)] else ndR F (lnd ns k w nu a ks d) j)
  (ndR F (lnd ns k w nu a ks' d) j):=by
 subst hk
 intro j
 refine LeL.of_eq ?_
 by_cases h:j=ns.length
 ·rw [zb h,h]
  unfold ndR
  rw [qes,qes,hq]
  simp [qbi,zs]
 ·rw [za h]
  exact quw (qqk h _)
theorem jbx {ns:List Nd} {k a:Int} {w:List (List UInt8)} {nu ks ks':List Int} {d:List Nd} {q:Nat} {x:Int} {g:Nat→List AV} (hk:ks'=ks++[x]) (hq:q=ks.length) (hg:g 0=[iv x]) :
  SoLe (.fam 3 1 (lnd ns k w nu a ks d).length (upd (fun _=>0) ns.length 0) (upd (fun k'=>((lnd ns k w nu a ks d).getD k' nd0).kids.length) ns.length (q+1))
   (upd (fun k' j=>[iv (((lnd ns k w nu a ks d).getD k' nd0).kids.getD j 0)]) ns.length (appF q (fun j=>[iv (((lnd ns k w nu a ks d).getD ns.length nd0).kids.getD j 0)]) 1 g))) (famN (lnd ns k w nu a ks' d)):=by
 subst hk
 exact quy hq hg
theorem jop:∀ (N:Nat) (t:Tr) (ns:List Nd),t.size≤N→t.size+ns.length≤100000→
  Trip Try.prog 36 [t.pv,.ptr 0 0,.ptr 1 0] [boxL (.own 2 0 0 ns.length),boxW,rowN 3 ns,famN ns] (iv ns.length) [(0,boxL (.own 2 0 0 (ns++layT ns.length t).length)),(1,boxW),(2,rowN 3 (ns++layT ns.length t)),(3,famN (ns++layT ns.length t))] 4:=by
 intro N
 induction N with
 | zero=>intro t ns h;have:=t.size_eq;omega
 | succ N ih=>
  intro t ns hN hM
  obtain ⟨k,w,nu,a,l⟩:=t
  have hS:Tr.sizeL l≤N∧1+Tr.sizeL l+ns.length≤100000:=by
   rw [Tr.size_eq] at hN hM
   have:Tr.sizeL (Tr.mk k w nu a l).l=Tr.sizeL l:=rfl
   omega
  have hlen:=Tr.size_len l
  have hE2:ns++layT ns.length (.mk k w nu a l)=lnd ns k w nu a (ql (ns.length+1) (l.take l.length)) (layL (ns.length+1) (l.take l.length)):=by
   rw [zac,layT];rfl
  rw [hE2]
  refine zL {} 300 Try.func36 (fun c0 rdb mpb=>?_)
  (repeat' ((conv=>whnf);first|refine zA ?_|refine zO ?_|refine Ob.auto ?_|(refine Ob.intro (by (exact ⟨⟨rfl,rfl⟩,by omega,by omega⟩)) ?_)|refine zD 300 ?_|(apply zB <;> intro hb <;> (try simp [-zd] at hb) <;> try (exfalso;omega))|refine Ob.intro ?_ ?_))
  refine qqj 2 3 3 rfl rfl (by rw [quu];rfl) ?_
  ((conv=>whnf);refine qag (fun _=>rfl) 300 1 (fun i:Nat=>[(23,iv i)]) (fun i=>[(0,boxL (.own 2 0 0 (lnd ns k w nu a (ql (ns.length+1) (l.take i)) (layL (ns.length+1) (l.take i))).length)),(2,rowN 3 (lnd ns k w nu a (ql (ns.length+1) (l.take i)) (layL (ns.length+1) (l.take i)))),(3,famN (lnd ns k w nu a (ql (ns.length+1) (l.take i)) (layL (ns.length+1) (l.take i))))]) (fun i=>i≤l.length) (fun i=>l.length - i) (0) (xa _) qa ⟨⟨rfl,Le.of_eq (congrArg (AV.own 2 0 0) lnd_one.symm),trivial⟩,⟨⟨rfl,rfl,rfl⟩,rfl,lnd_one.symm,jal rfl⟩,jam,trivial⟩ (fun _=>rfl) (by kernel_rfl) ?_;(conv=>whnf))
  intro i hi
  have hsl:i<l.length→Tr.sizeL (l.take i)+(l.getD i Tr.none).size≤Tr.sizeL l:=fun h=>qoa l i h
  have hl1:=lnd_len (ns:=ns) (k:=k) (w:=w) (nu:=nu) (a:=a) (ks:=ql (ns.length+1) (l.take i)) (d:=layL (ns.length+1) (l.take i))
  rw [layL_len] at hl1
  have hks:(ql (ns.length+1) (l.take i)).length=i:=by rw [qlo,xg];omega
  (repeat' ((conv=>whnf);first|refine zA ?_|refine zO ?_|refine Ob.auto ?_|(refine Ob.intro (by (exact qx (by omega) (by omega))) ?_)|refine zD 300 ?_|(apply zB <;> intro hb <;> (try simp [-zd] at hb) <;> try (exfalso;omega))|refine Ob.intro ?_ ?_))
  ·have hil:i<l.length:=by assumption
   refine jbv (A:=.rptr [(Tr.pvL l).getD i .nilp]) (B:=.rptr [(l.getD i Tr.none).pv]) (congrArg (fun x=>AV.rptr [x]) (Tr.pvL_get l i hil)) ?_
   (repeat' ((conv=>whnf);first|refine zA ?_|refine zO ?_|refine Ob.auto ?_|(refine Ob.intro (by (exact qx (by omega) (by omega))) ?_)|refine zD 300 ?_|(apply zB <;> intro hb <;> (try simp [-zd] at hb) <;> try (exfalso;omega))|refine Ob.intro ?_ ?_))
   (conv=>whnf)
   refine qgk (fun _=>rfl) 300 [0,1,2,3] (ih (l.getD i Tr.none) (lnd ns k w nu a (ql (ns.length+1) (l.take i)) (layL (ns.length+1) (l.take i))) (by have:=hsl hil;omega) (by have:=hsl hil;omega)) (by kernel_rfl) leA
    ⟨SoLe.refl _,SoLe.refl _,SoLe.refl _,SoLe.refl _,trivial⟩ (qrb _ _) (qrb _ _) (by kernel_rfl) ?_
   have hE:lnd ns k w nu a (ql (ns.length+1) (l.take i)) (layL (ns.length+1) (l.take i)) ++
     layT (lnd ns k w nu a (ql (ns.length+1) (l.take i)) (layL (ns.length+1) (l.take i))).length (l.getD i Tr.none) =
     lnd ns k w nu a (ql (ns.length+1) (l.take i)) (layL (ns.length+1) (l.take (i+1))):=by
    rw [qqm,hl1,qlp hil,qnz]
   rw [hE]
   have hl3:=lnd_len (ns:=ns) (k:=k) (w:=w) (nu:=nu) (a:=a) (ks:=ql (ns.length+1) (l.take i)) (d:=layL (ns.length+1) (l.take (i+1)))
   rw [layL_len] at hl3
   have hat:(lnd ns k w nu a (ql (ns.length+1) (l.take i)) (layL (ns.length+1) (l.take (i+1)))).getD ns.length nd0=⟨k,w,nu,ql (ns.length+1) (l.take i),a⟩:=qes
   have hkq:((lnd ns k w nu a (ql (ns.length+1) (l.take i)) (layL (ns.length+1) (l.take (i+1)))).getD ns.length nd0).kids.length≤100000:=by rw [hat];simp only;omega
   have hkn:ql (ns.length+1) (l.take (i+1))=ql (ns.length+1) (l.take i)++[((ns.length+1+Tr.sizeL (l.take i):Nat):Int)]:=by rw [qlp hil,qny]
   (repeat' ((conv=>whnf);first|refine zA ?_|refine zO ?_|refine Ob.auto ?_|(refine Ob.intro (by (exact qx (by omega) (by omega))) ?_)|refine zD 300 ?_|(apply zB <;> intro hb <;> (try simp [-zd] at hb) <;> try (exfalso;omega))|refine Ob.intro ?_ ?_))
   ·refine ⟨(show ns.length < _ by omega),⟨rfl,rfl⟩,(show (_:Nat)+1≤_ from zx (zav hkq) (by decide)),zx (zv _ (zav hkq)) qqn⟩
   ·refine ⟨⟨⟨rfl,rfl⟩,(show ns.length<(lnd ns k w nu a (ql (ns.length+1) (l.take i)) (layL (ns.length+1) (l.take (i+1)))).length by omega)⟩,(show ns.length<(lnd ns k w nu a (ql (ns.length+1) (l.take i)) (layL (ns.length+1) (l.take (i+1)))).length by omega),by simp [upd],by simp [upd]⟩
   ((conv=>whnf);refine ⟨i+1,hil,⟨qa,⟨⟨rfl,Le.of_eq (congrArg (AV.own 2 0 0) (lnd_len.trans lnd_len.symm)),trivial⟩,⟨⟨rfl,rfl,rfl⟩,rfl,lnd_len.trans lnd_len.symm,fun j _=>jbw hkn (congrArg (fun n=>n.kids.length) hat) j⟩,jbx hkn (congrArg (fun n=>n.kids.length) hat) (congrArg (fun n:Nat=>[iv n]) hl1),trivial⟩⟩,⟨qa,qa⟩,?_⟩;(first|omega|(dsimp only;omega)|skip))
  ·obtain rfl:i=l.length:=by
    have:(Tr.mk k w nu a l).l.length≤i:=by assumption
    have:l.length≤i:=this
    omega
   exact ⟨Le.refl _,qa⟩
theorem rowsD (x:AV) (L:List Nd):rowsLt 11 [(0,boxL x),(1,boxW),(8,rowN 10 L),(10,famN L)]:=fun j ids e sz ep m f hl hne k hk=>by
 rw [qt] at hl
 split at hl
 ·cases hl
 rw [qt] at hl
 split at hl
 ·cases hl
 rw [qt] at hl
 split at hl
 ·cases hl
  rfl
 rw [qt] at hl
 split at hl
 ·cases hl
 ·cases hl
theorem joq (t:Tr) (hM:t.size≤100000) :
  Trip Try.prog 36 [t.pv,.ptr 0 0,.ptr 1 0] [boxL .nils,boxW] (iv 0) [(0,boxL (.own 8 0 0 (layT 0 t).length)),(1,boxW),(8,rowN 10 (layT 0 t)),(10,famN (layT 0 t))] 11:=by
 obtain ⟨k,w,nu,a,l⟩:=t
 have hS:1+Tr.sizeL l≤100000:=by
  rw [Tr.size_eq] at hM
  exact hM
 have hlen:=Tr.size_len l
 have hE2:layT 0 (.mk k w nu a l)=lnd [] k w nu a (ql 1 (l.take l.length)) (layL 1 (l.take l.length)):=by
  rw [zac,layT];rfl
 rw [hE2]
 refine zL {} 300 Try.func36 (fun c0 rdb mpb=>?_)
 (repeat' ((conv=>whnf);first|refine zA ?_|refine zO ?_|refine Ob.auto ?_|(refine Ob.intro (by (exact ⟨⟨rfl,rfl⟩,by omega,by omega⟩)) ?_)|refine zD 300 ?_|(apply zB <;> intro hb <;> (try simp [-zd] at hb) <;> try (exfalso;omega))|refine Ob.intro ?_ ?_))
 refine jaj 8 3 1 rfl ?_
 (conv=>whnf)
 refine qqj 8 10 3 rfl rfl rfl ?_
 ((conv=>whnf);refine qag (fun _=>rfl) 300 1 (fun i:Nat=>[(23,iv i)]) (fun i=>[(0,boxL (.own 8 0 0 (lnd [] k w nu a (ql 1 (l.take i)) (layL 1 (l.take i))).length)),(8,rowN 10 (lnd [] k w nu a (ql 1 (l.take i)) (layL 1 (l.take i)))),(10,famN (lnd [] k w nu a (ql 1 (l.take i)) (layL 1 (l.take i))))]) (fun i=>i≤l.length) (fun i=>l.length - i) (0) (xa _) qa ⟨⟨rfl,Le.refl _,trivial⟩,⟨⟨rfl,rfl,rfl⟩,rfl,rfl,jan rfl⟩,jao,trivial⟩ (fun _=>rfl) (by kernel_rfl) ?_;(conv=>whnf))
 intro i hi
 have hsl:i<l.length→Tr.sizeL (l.take i)+(l.getD i Tr.none).size≤Tr.sizeL l:=fun h=>qoa l i h
 have hl1:=lnd_len (ns:=[]) (k:=k) (w:=w) (nu:=nu) (a:=a) (ks:=ql 1 (l.take i)) (d:=layL 1 (l.take i))
 rw [layL_len,zaq,zq] at hl1
 have hks:(ql 1 (l.take i)).length=i:=by rw [qlo,xg];omega
 (repeat' ((conv=>whnf);first|refine zA ?_|refine zO ?_|refine Ob.auto ?_|(refine Ob.intro (by (exact qx (by omega) (by omega))) ?_)|refine zD 300 ?_|(apply zB <;> intro hb <;> (try simp [-zd] at hb) <;> try (exfalso;omega))|refine Ob.intro ?_ ?_))
 ·have hil:i<l.length:=by assumption
  refine jbv (A:=.rptr [(Tr.pvL l).getD i .nilp]) (B:=.rptr [(l.getD i Tr.none).pv]) (congrArg (fun x=>AV.rptr [x]) (Tr.pvL_get l i hil)) ?_
  (repeat' ((conv=>whnf);first|refine zA ?_|refine zO ?_|refine Ob.auto ?_|(refine Ob.intro (by (exact qx (by omega) (by omega))) ?_)|refine zD 300 ?_|(apply zB <;> intro hb <;> (try simp [-zd] at hb) <;> try (exfalso;omega))|refine Ob.intro ?_ ?_))
  (conv=>whnf)
  refine qgk (fun _=>rfl) 300 [0,1,8,10] (jop _ (l.getD i Tr.none) (lnd [] k w nu a (ql 1 (l.take i)) (layL 1 (l.take i))) (zh _) (by have:=hsl hil;omega)) (by kernel_rfl) leA
   ⟨SoLe.refl _,SoLe.refl _,⟨⟨rfl,rfl,rfl⟩,rfl,rfl,fun j _=>LeL.of_eq (joo (ι:=names [0,1,8,10] (9+1+1)) (F:=10) rfl).symm⟩,SoLe.refl _,trivial⟩ (qrb _ _) (qrb _ _) (by kernel_rfl) ?_
  have hE:lnd [] k w nu a (ql 1 (l.take i)) (layL 1 (l.take i)) ++
    layT (lnd [] k w nu a (ql 1 (l.take i)) (layL 1 (l.take i))).length (l.getD i Tr.none) =
    lnd [] k w nu a (ql 1 (l.take i)) (layL 1 (l.take (i+1))):=by
   rw [qqm,hl1,qlp hil,qnz]
  rw [hE]
  have hl3:=lnd_len (ns:=[]) (k:=k) (w:=w) (nu:=nu) (a:=a) (ks:=ql 1 (l.take i)) (d:=layL 1 (l.take (i+1)))
  rw [layL_len,zaq,zq] at hl3
  have hat:(lnd [] k w nu a (ql 1 (l.take i)) (layL 1 (l.take (i+1)))).getD 0 nd0=⟨k,w,nu,ql 1 (l.take i),a⟩:=qes
  have hkq:((lnd [] k w nu a (ql 1 (l.take i)) (layL 1 (l.take (i+1)))).getD 0 nd0).kids.length≤100000:=by rw [hat];simp only;omega
  have hkn:ql 1 (l.take (i+1))=ql 1 (l.take i)++[((1+Tr.sizeL (l.take i):Nat):Int)]:=by rw [qlp hil,qny]
  (repeat' ((conv=>whnf);first|refine zA ?_|refine zO ?_|refine Ob.auto ?_|(refine Ob.intro (by (exact qx (by omega) (by omega))) ?_)|refine zD 300 ?_|(apply zB <;> intro hb <;> (try simp [-zd] at hb) <;> try (exfalso;omega))|refine Ob.intro ?_ ?_))
  ·refine ⟨(show 0 < _ by omega),⟨rfl,rfl⟩,(show (_:Nat)+1≤_ from zx (zav hkq) (by decide)),zx (zv _ (zav hkq)) qqn⟩
  ((conv=>whnf);refine ⟨i+1,hil,⟨qa,⟨⟨rfl,Le.of_eq (congrArg (AV.own 8 0 0) (lnd_len.trans lnd_len.symm)),trivial⟩,⟨⟨rfl,rfl,rfl⟩,rfl,lnd_len.trans lnd_len.symm,fun j _=>jbw (F:=10) (ns:=[]) (k:=k) (w:=w) (a:=a) (nu:=nu) (ks:=ql 1 (l.take i)) (d:=layL 1 (l.take (i+1))) (q:=((lnd [] k w nu a (ql 1 (l.take i)) (layL 1 (l.take (i+1)))).getD 0 nd0).kids.length) hkn (congrArg (fun n=>n.kids.length) hat) j⟩,jbx (ns:=[]) (k:=k) (w:=w) (a:=a) (nu:=nu) (ks:=ql 1 (l.take i)) (d:=layL 1 (l.take (i+1))) (q:=((lnd [] k w nu a (ql 1 (l.take i)) (layL 1 (l.take (i+1)))).getD 0 nd0).kids.length) hkn (congrArg (fun n=>n.kids.length) hat) (congrArg (fun n:Nat=>[iv n]) hl1),trivial⟩⟩,⟨qa,qa⟩,?_⟩;(first|omega|(dsimp only;omega)|skip))
 ·obtain rfl:i=l.length:=by
   have:(Tr.mk k w nu a l).l.length≤i:=by assumption
   have:l.length≤i:=this
   omega
  exact ⟨Le.refl _,qa⟩
theorem jor {ι:Nat→Nat} {F G:Nat} (hι:ι F=G) {L:List Nd} {j:Nat}:(ndR F L j).map (AV.ren1 ι)=ndR G L j:=by
 show [iv _,strs _,ints _,AV.own (ι F) j 0 (L.getD j nd0).kids.length,iv (L.getD j nd0).at_]=_
 rw [hι];rfl
theorem jos (t:Tr) (hM:t.size≤100000) :
  Trip Try.prog 20 [t.pv] [] (.own 8 0 0 (layT 0 t).length) [(8,rowN 10 (layT 0 t)),(10,famN (layT 0 t))] 11:=by
 refine zL {} 300 Try.func20 (fun c0 rdb mpb=>?_)
 (repeat' ((conv=>whnf);first|refine zA ?_|refine zO ?_|refine Ob.auto ?_|refine zD 300 ?_|(apply zB <;> intro hb <;> (try simp [-zd] at hb) <;> try (exfalso;omega))|refine Ob.intro ?_ ?_))
 (conv=>whnf)
 refine qgk (fun _=>rfl) 300 [0,1] (joq t hM) (by kernel_rfl) leA qa (by exact qb rfl) (rowsD _ _) (by kernel_rfl) ?_
 (repeat' ((conv=>whnf);first|refine zA ?_|refine zO ?_|refine Ob.auto ?_|refine zD 300 ?_|(apply zB <;> intro hb <;> (try simp [-zd] at hb) <;> try (exfalso;omega))|refine Ob.intro ?_ ?_))
 exact ⟨Le.refl _,⟨⟨rfl,rfl,rfl⟩,rfl,rfl,fun j _=>LeL.of_eq (jor (ι:=names [0,1] 2) rfl)⟩,SoLe.refl _,trivial⟩
end Go.Proofs.Ythfaleaojlnnoaa
