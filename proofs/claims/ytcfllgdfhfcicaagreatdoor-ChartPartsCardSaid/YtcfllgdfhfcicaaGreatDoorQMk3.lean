/- Contracts: automata by the document's answer: places, edges. -/
import Derived.Test.YtcfllgdfhfcicaaGreatDoorQ17
import Derived.Test.YtcfllgdfhfcicaaGreatDoorQ2
set_option linter.unusedSimpArgs false
set_option linter.unusedVariables false
namespace Go.Proofs.YtcfllgdfhfcicaaGreatDoor
open List renaming getD_eq_getElem?_getD → zd
open Go Go.Sx Go.RowKit Go.St
set_option maxRecDepth 100000
set_option maxHeartbeats 4000000
def prV (p:Pr):AV:=.agg p.cells
def prO (k:Nat) (p:Pr):AV:=.agg [.str p.name,iv p.copy,ints p.locals,iv p.places,qlu p.rest,.own k 0 0 p.edges.length,strs p.names,ints p.vars]
abbrev edSO (p:Pr):SO:=.row [] 84 8 0 p.edges.length (encL Ed.cells ed0 p.edges)
abbrev qie (f:FuncId) (args:List AV) (st0:List SO) (p:Pr):Prop:=Trip Tryz.prog f args st0 (prO st0.length p) (Go.Sx.idx 0 (st0++[edSO p])) (st0.length+1)
abbrev vrSO (n:Nat) (f:Nat→List AV):SO:=.row [] 105 3 0 n f
abbrev pcSO (n:Nat) (f:Nat→List AV):SO:=.row [] 73 8 0 n f
theorem jek (L:List (List UInt8)) (hL:L.length≤1000000) (s:List UInt8):Con Tryz.prog 112 [strs L,.str s] (iv (qco L s)):=by
 refine zK {} 300 Tryz.func112 (fun c0 rdb=>?_)
 ((conv=>whnf);refine qo (fun _=>rfl) 300 1 (fun i:Nat=>[(5,iv i)]) (fun _=>[]) (fun i=>i≤L.length∧∀ j,j<i→(L.getD j [] == s)=false) (fun i=>L.length - i) (0) (⟨by omega,fun j hj=>absurd hj (zh j)⟩) qa qa (fun _=>rfl) (by kernel_rfl) ?_;(conv=>whnf))
 intro i hi
 (repeat' ((conv=>whnf);first|refine Ob.auto ?_|(apply zB <;> intro hb <;> (try simp [-zd] at hb) <;> try (exfalso;omega))))
 ·refine Le.of_eq (congrArg (AV.int _) ?_)
  rw [qco,qdt (· == s) L [] i (by omega) (beq_iff_eq.2 hb) hi.2,za (by omega)]
 ·((conv=>whnf);refine ⟨i+1,⟨by omega,qan hi.2 (beq_eq_false_iff_ne.2 hb)⟩,⟨qa,qa⟩,⟨qa,qa⟩,?_⟩;(first|omega|(dsimp only;omega)|skip))
 ·refine Le.of_eq (congrArg (AV.int _) ?_)
  rw [qco,qev (· == s) L [] (fun j hj=>hi.2 j (by omega)),zb (by omega)]
def mdR (m:Md) (nv:Nat) (fv:Nat→List AV) (np:Nat) (fp:Nat→List AV):AV:=.agg [js m.tree,iv m.globals,slcL Ch.cells ch0 5 m.chans,.slc 3 nv fv,.slc 8 np fp,ints m.safe,.bool m.dead]
theorem jel (m:Md) (nv:Nat) (fv:Nat→List AV) (np:Nat) (fp:Nat→List AV) (hL:m.chans.length≤1000000) (s:List UInt8):Con Tryz.prog 113 [mdR m nv fv np fp,.str s] (iv (qfj m.chans s)):=by
 refine zK {} 300 Tryz.func113 (fun c0 rdb=>?_)
 ((conv=>whnf);refine qo (fun _=>rfl) 300 1 (fun i:Nat=>[(5,iv i)]) (fun _=>[]) (fun i=>i≤m.chans.length∧∀ j,j<i→((m.chans.getD j ch0).name == s)=false) (fun i=>m.chans.length - i) (0) (⟨by omega,fun j hj=>absurd hj (zh j)⟩) qa qa (fun _=>rfl) (by kernel_rfl) ?_;(conv=>whnf))
 intro i hi
 (repeat' ((conv=>whnf);first|refine Ob.auto ?_|(apply zB <;> intro hb <;> (try simp [-zd] at hb) <;> try (exfalso;omega))))
 ·refine Le.of_eq (congrArg (AV.int _) ?_)
  rw [qfj,qdt (fun c:Ch=>c.name == s) m.chans ch0 i (by omega) (beq_iff_eq.2 hb) hi.2,za (by omega)]
 ·((conv=>whnf);refine ⟨i+1,⟨by omega,qan hi.2 (beq_eq_false_iff_ne.2 hb)⟩,⟨qa,qa⟩,⟨qa,qa⟩,?_⟩;(first|omega|(dsimp only;omega)|skip))
 ·refine Le.of_eq (congrArg (AV.int _) ?_)
  rw [qfj,qev (fun c:Ch=>c.name == s) m.chans ch0 (fun j hj=>hi.2 j (by omega)),zb (by omega)]
theorem jem {α:Type} (enc:α→List AV) (d:α) (L:List α) (g:Nat→List AV) (x:α) (h:g 0=enc x) (f:Nat→List AV) (i:Nat) (hi:i<0+L.length+1):appF (0+L.length) (appF 0 f L.length (encL enc d L)) 1 g i=encL enc d (L++[x]) i:=by
 simp only [appF,encL,qiw,zr] at *
 by_cases h1:i<L.length
 ·rw [zb h1,zb h1,za (by omega),zb (by omega),zam]
 ·obtain rfl:i=L.length:=by omega
  rw [za h1,zb (by omega),xv,h]
  simp
theorem qkt (p:Pr) (hp:0≤p.places∧p.places≤100000) (hr:p.rest.length≤100000):Con Tryz.prog 80 [prV p] (.tup [prV (qg p),iv p.places]):=by
 refine zK {lit:=true} 300 Tryz.func80 (fun c0 rdb=>?_)
 (repeat' ((conv=>whnf);first|refine zO ?_|refine Ob.auto ?_|(refine zR 300 ?_)|fail))
 refine Le.tup ⟨Le.agg ⟨Le.refl _,Le.refl _,Le.refl _,Le.refl _,Le.slc ?_ (fun i hi=>?_),Le.refl _,Le.refl _,Le.refl _,trivial⟩,Le.of_eq (congrArg (AV.int _) ?_),trivial⟩
 ·simp [qg]
 ·exact jem _ false p.rest _ false rfl _ i hi
 ·omega
theorem qdd (p:Pr) (hp:p.edges.length≤100000) (frm to act node expr v c:Int):qie 78 [prV p,iv frm,iv to,iv act,iv node,iv expr,iv v,iv c] [] (putF p frm to act node expr v c):=by
 refine qdl (T:=tab Tryz.prog) (C:={lit:=true}) 5 300 (fun _=>rfl) Tryz.func78 rfl (by kernel_rfl) (by kernel_rfl) (fun c0 rdb mpb=>?_)
 (repeat' ((conv=>whnf);first|refine Ob.auto ?_|fail))
 refine ⟨⟨Le.agg ⟨Le.refl _,Le.refl _,Le.refl _,Le.refl _,Le.refl _,Le.of_eq (congrArg (AV.own _ _ _) ?_),Le.refl _,Le.refl _,trivial⟩,trivial⟩,qdk rfl ⟨⟨rfl,rfl,rfl⟩,rfl,?_,fun i hi=>LeL.of_eq ?_⟩⟩
 ·simp [putF]
 ·simp [putF]
 ·exact jem _ ed0 p.edges _ _ rfl _ i hi
theorem qwr (p:Pr) (a idle:Int) (ha:0≤a∧a<p.rest.length) (hr:p.rest.length≤100000):Con Tryz.prog 114 [prV p,iv a,iv idle] (prV (jx p a idle)):=by
 refine zK {lit:=true} 300 Tryz.func114 (fun c0 rdb=>?_)
 (repeat' ((conv=>whnf);first|refine Ob.auto ?_|(apply zB <;> intro hb <;> (try simp [-zd] at hb) <;> try (exfalso;omega))))
 ·have hcell:∀ i,i<p.rest.length→appF 0 (chop 1 []) p.rest.length (encL (fun b=>[AV.bool b]) false p.rest) i=[AV.bool (p.rest.getD i false)]:=fun i hi=>by
   unfold appF encL
   rw [za (by omega),zb (by omega),zam]
  refine Le.agg ⟨Le.refl _,Le.refl _,Le.refl _,Le.refl _,Le.slc ?_ (fun i hi=>?_),Le.refl _,Le.refl _,Le.refl _,trivial⟩
  ·simp [jx,hb]
  ·have hi':i<p.rest.length:=by simpa using hi
   have hr':(jx p a idle).rest=p.rest.set a.toNat true:=by simp [jx,hb]
   rw [hr']
   by_cases e:i=a.toNat
   ·refine (zb e).trans ?_
    subst e
    refine (congrArg (fun z=>qat z 0 _) (hcell _ hi')).trans ?_
    simp only [encL,zd,List.getElem?_set_self hi'];rfl
   ·refine (za e).trans ((hcell i hi').trans ?_)
    simp only [encL,zd,List.getElem?_set_ne (Ne.symm e)]
 ·have hcell:∀ i,i<p.rest.length→appF 0 (chop 1 []) p.rest.length (encL (fun b=>[AV.bool b]) false p.rest) i=[AV.bool (p.rest.getD i false)]:=fun i hi=>by
   unfold appF encL
   rw [za (by omega),zb (by omega),zam]
  refine Le.agg ⟨Le.refl _,Le.refl _,Le.refl _,Le.refl _,Le.slc ?_ (fun i hi=>?_),Le.refl _,Le.refl _,Le.refl _,trivial⟩
  ·simp [jx,hb]
  ·have hi':i<p.rest.length:=by simpa using hi
   have hr':(jx p a idle).rest=p.rest:=by simp [jx,hb]
   rw [hr']
   exact hcell i hi'
end Go.Proofs.YtcfllgdfhfcicaaGreatDoor
