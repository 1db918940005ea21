/- Some texts of the library, one behind the other. -/
import Derived.Test.YtikahnkkfkoglaaGreatDoorY233
import Derived.Test.YtikahnkkfkoglaaGreatDoorY22
import Derived.Test.YtikahnkkfkoglaaGreatDoorY2MkQ
set_option linter.unusedSimpArgs false
set_option linter.unusedVariables false
section
namespace Go.Proofs.YtikahnkkfkoglaaGreatDoor
open List renaming getD_eq_getElem?_getD → zd
open Go Go.Sx Go.RowKit Go.St
set_option maxRecDepth 100000
set_option maxHeartbeats 4000000
def prV (p:Pr):AV:=.agg p.cells
def prO (k:Nat) (p:Pr):AV:=.agg [.str p.name,iv p.copy,ints p.locals,iv p.places,qmb p.rest,.own k 0 0 p.edges.length,strs p.names,ints p.vars]
abbrev edSO (p:Pr):SO:=.row [] 83 8 0 p.edges.length (encL Ed.cells ed0 p.edges)
abbrev qik (f:FuncId) (args:List AV) (st0:List SO) (p:Pr):Prop:=Trip Tryz.prog f args st0 (prO st0.length p) (Go.Sx.idx 0 (st0++[edSO p])) (st0.length+1)
abbrev vrSO (n:Nat) (f:Nat→List AV):SO:=.row [] 90 3 0 n f
abbrev pcSO (n:Nat) (f:Nat→List AV):SO:=.row [] 80 8 0 n f
theorem jhl (L:List (List UInt8)) (hL:L.length≤1000000) (s:List UInt8):Con Tryz.prog 101 [strs L,.str s] (iv (qcm L s)):=by
 refine zK {} 300 Tryz.func101 (fun c0 rdb=>?_)
 ((conv=>whnf);refine qm (fun _=>rfl) 300 1 (fun i:Nat=>[(5,iv i)]) (fun _=>[]) (fun i=>i≤L.length∧∀ j,j<i→(L.getD j [] == s)=false) (fun i=>L.length - i) (0) (⟨by omega,fun j hj=>absurd hj (zh j)⟩) qa qa (fun _=>rfl) (by kernel_rfl) ?_;(conv=>whnf))
 intro i hi
 (repeat' ((conv=>whnf);first|refine Ob.auto ?_|(apply zB <;> intro hb <;> (try simp [-zd] at hb) <;> try (exfalso;omega))))
 ·refine Le.of_eq (congrArg (AV.int _) ?_)
  rw [qcm,qfb (· == s) L [] i (by omega) (beq_iff_eq.2 hb) hi.2,za (by omega)]
 ·((conv=>whnf);refine ⟨i+1,⟨by omega,qaf hi.2 (beq_eq_false_iff_ne.2 hb)⟩,⟨qa,qa⟩,⟨qa,qa⟩,?_⟩;(first|omega|(dsimp only;omega)|skip))
 ·refine Le.of_eq (congrArg (AV.int _) ?_)
  rw [qcm,qfc (· == s) L [] (fun j hj=>hi.2 j (by omega)),zb (by omega)]
def mdR (m:Md) (nv:Nat) (fv:Nat→List AV) (np:Nat) (fp:Nat→List AV):AV:=.agg [jx m.tree,iv m.globals,slcL Ch.cells ch0 5 m.chans,.slc 3 nv fv,.slc 8 np fp,ints m.safe,.bool m.dead]
theorem jhm (m:Md) (nv:Nat) (fv:Nat→List AV) (np:Nat) (fp:Nat→List AV) (hL:m.chans.length≤1000000) (s:List UInt8):Con Tryz.prog 102 [mdR m nv fv np fp,.str s] (iv (qfg m.chans s)):=by
 refine zK {} 300 Tryz.func102 (fun c0 rdb=>?_)
 ((conv=>whnf);refine qm (fun _=>rfl) 300 1 (fun i:Nat=>[(5,iv i)]) (fun _=>[]) (fun i=>i≤m.chans.length∧∀ j,j<i→((m.chans.getD j ch0).name == s)=false) (fun i=>m.chans.length - i) (0) (⟨by omega,fun j hj=>absurd hj (zh j)⟩) qa qa (fun _=>rfl) (by kernel_rfl) ?_;(conv=>whnf))
 intro i hi
 (repeat' ((conv=>whnf);first|refine Ob.auto ?_|(apply zB <;> intro hb <;> (try simp [-zd] at hb) <;> try (exfalso;omega))))
 ·refine Le.of_eq (congrArg (AV.int _) ?_)
  rw [qfg,qfb (fun c:Ch=>c.name == s) m.chans ch0 i (by omega) (beq_iff_eq.2 hb) hi.2,za (by omega)]
 ·((conv=>whnf);refine ⟨i+1,⟨by omega,qaf hi.2 (beq_eq_false_iff_ne.2 hb)⟩,⟨qa,qa⟩,⟨qa,qa⟩,?_⟩;(first|omega|(dsimp only;omega)|skip))
 ·refine Le.of_eq (congrArg (AV.int _) ?_)
  rw [qfg,qfc (fun c:Ch=>c.name == s) m.chans ch0 (fun j hj=>hi.2 j (by omega)),zb (by omega)]
theorem jhn {α:Type} (enc:α→List AV) (d:α) (L:List α) (g:Nat→List AV) (x:α) (h:g 0=enc x) (f:Nat→List AV) (i:Nat) (hi:i<0+L.length+1):appF (0+L.length) (appF 0 f L.length (encL enc d L)) 1 g i=encL enc d (L++[x]) i:=by
 simp only [appF,encL,qko,zo] at *
 by_cases h1:i<L.length
 ·rw [zb h1,zb h1,za (by omega),zb (by omega),zam]
 ·obtain rfl:i=L.length:=by omega
  rw [za h1,zb (by omega),zai,h]
  simp
theorem qli (p:Pr) (hp:0≤p.places∧p.places≤100000) (hr:p.rest.length≤100000):Con Tryz.prog 68 [prV p] (.tup [prV (qg p),iv p.places]):=by
 refine zK {lit:=true} 300 Tryz.func68 (fun c0 rdb=>?_)
 (repeat' ((conv=>whnf);first|refine zO ?_|refine Ob.auto ?_|(refine zR 300 ?_)|fail))
 refine Le.tup ⟨Le.agg ⟨Le.refl _,Le.refl _,Le.refl _,Le.refl _,Le.slc ?_ (fun i hi=>?_),Le.refl _,Le.refl _,Le.refl _,trivial⟩,Le.of_eq (congrArg (AV.int _) ?_),trivial⟩
 ·simp [qg]
 ·exact jhn _ false p.rest _ false rfl _ i hi
 ·omega
theorem qda (p:Pr) (hp:p.edges.length≤100000) (frm to act node expr v c:Int):qik 66 [prV p,iv frm,iv to,iv act,iv node,iv expr,iv v,iv c] [] (putF p frm to act node expr v c):=by
 refine qdj (T:=tab Tryz.prog) (C:={lit:=true}) 5 300 (fun _=>rfl) Tryz.func66 rfl (by kernel_rfl) (by kernel_rfl) (fun c0 rdb mpb=>?_)
 (repeat' ((conv=>whnf);first|refine Ob.auto ?_|fail))
 refine ⟨⟨Le.agg ⟨Le.refl _,Le.refl _,Le.refl _,Le.refl _,Le.refl _,Le.of_eq (congrArg (AV.own _ _ _) ?_),Le.refl _,Le.refl _,trivial⟩,trivial⟩,qdi rfl ⟨⟨rfl,rfl,rfl⟩,rfl,?_,fun i hi=>LeL.of_eq ?_⟩⟩
 ·simp [putF]
 ·simp [putF]
 ·exact jhn _ ed0 p.edges _ _ rfl _ i hi
theorem qyq (p:Pr) (a idle:Int) (ha:0≤a∧a<p.rest.length) (hr:p.rest.length≤100000):Con Tryz.prog 103 [prV p,iv a,iv idle] (prV (qad p a idle)):=by
 refine zK {lit:=true} 300 Tryz.func103 (fun c0 rdb=>?_)
 (repeat' ((conv=>whnf);first|refine Ob.auto ?_|(apply zB <;> intro hb <;> (try simp [-zd] at hb) <;> try (exfalso;omega))))
 ·have hcell:∀ i,i<p.rest.length→appF 0 (chop 1 []) p.rest.length (encL (fun b=>[AV.bool b]) false p.rest) i=[AV.bool (p.rest.getD i false)]:=fun i hi=>by
   unfold appF encL
   rw [za (by omega),zb (by omega),zam]
  refine Le.agg ⟨Le.refl _,Le.refl _,Le.refl _,Le.refl _,Le.slc ?_ (fun i hi=>?_),Le.refl _,Le.refl _,Le.refl _,trivial⟩
  ·simp [qad,hb]
  ·have hi':i<p.rest.length:=by simpa using hi
   have hr':(qad p a idle).rest=p.rest.set a.toNat true:=by simp [qad,hb]
   rw [hr']
   by_cases e:i=a.toNat
   ·refine (zb e).trans ?_
    subst e
    refine (congrArg (fun z=>qaw z 0 _) (hcell _ hi')).trans ?_
    simp only [encL,zd,List.getElem?_set_self hi'];rfl
   ·refine (za e).trans ((hcell i hi').trans ?_)
    simp only [encL,zd,List.getElem?_set_ne (Ne.symm e)]
 ·have hcell:∀ i,i<p.rest.length→appF 0 (chop 1 []) p.rest.length (encL (fun b=>[AV.bool b]) false p.rest) i=[AV.bool (p.rest.getD i false)]:=fun i hi=>by
   unfold appF encL
   rw [za (by omega),zb (by omega),zam]
  refine Le.agg ⟨Le.refl _,Le.refl _,Le.refl _,Le.refl _,Le.slc ?_ (fun i hi=>?_),Le.refl _,Le.refl _,Le.refl _,trivial⟩
  ·simp [qad,hb]
  ·have hi':i<p.rest.length:=by simpa using hi
   have hr':(qad p a idle).rest=p.rest:=by simp [qad,hb]
   rw [hr']
   exact hcell i hi'
def mdO (m:Md) (nv np:Nat):AV:=.agg [jx m.tree,iv m.globals,slcL Ch.cells ch0 5 m.chans,.own 0 0 0 nv,.own 1 0 0 np,ints m.safe,.bool m.dead]
section
variable (m:Md) (nv:Nat) (fv:Nat→List AV) (np:Nat) (fp:Nat→List AV)
theorem jho (st:Pr→Int→Int→Int→Pr) (node:Int)
  (pre:List Int→Pr→Int→Int→Prop) (hsz:∀ ks p frm to,pre ks p frm to→(p.edges.length≤50000∧0≤p.places∧p.places≤50000∧p.rest.length≤50000)∧ks.length≤800)
  (h1:∀ k p frm to,pre [k] p frm to→qik 67 [mdO m nv np,prV p,iv k,iv frm,iv to] [vrSO nv fv,pcSO np fp] (st p k frm to))
  (h2:∀ k k' ks p frm to,pre (k::k'::ks) p frm to→qik 67 [mdO m nv np,prV (qg p),iv k,iv frm,iv p.places] [vrSO nv fv,pcSO np fp] (st (qg p) k frm p.places)∧pre (k'::ks) (st (qg p) k frm p.places) p.places to) :
  ∀ (ks:List Int) (p:Pr) (frm to:Int),pre ks p frm to→qik 40 [mdO m nv np,prV p,ints ks,iv node,iv frm,iv to] [vrSO nv fv,pcSO np fp] (qbj st node p ks frm to):=by
 intro ks
 induction ks with
 | nil=>
  intro p frm to hp
  have hs:=hsz _ _ _ _ hp
  refine qdj (T:=tab Tryz.prog) (C:={}) 5 300 (fun _=>rfl) Tryz.func40 rfl (by kernel_rfl) (by kernel_rfl) (fun c0 rdb mpb=>?_)
  (repeat' ((conv=>whnf);first|(apply zB <;> intro hb <;> (try simp [-zd] at hb) <;> try (exfalso;omega))))
  ·((conv=>whnf);refine zT 300 [] (qda p (by omega) frm to 0 node (-1) (-1) (-1)) qa ?_)
   (repeat' ((conv=>whnf);first|refine Ob.auto ?_|fail))
   (refine ⟨⟨Le.refl _,qa⟩,qdi rfl (SoLe.refl _)⟩)
 | cons k ks ih=>
  intro p frm to hp
  have hs:=hsz _ _ _ _ hp
  cases ks with
  | nil=>
   refine qdj (T:=tab Tryz.prog) (C:={}) 5 300 (fun _=>rfl) Tryz.func40 rfl (by kernel_rfl) (by kernel_rfl) (fun c0 rdb mpb=>?_)
   (repeat' ((conv=>whnf);first|refine Ob.auto ?_|(refine zQ 300 ?_)|(apply zB <;> intro hb <;> (try simp [-zd] at hb) <;> try (exfalso;omega))))
   ((conv=>whnf);refine CallY.trip [0,1] (h1 k p frm to hp) (by kernel_rfl) leA qa (by exact qb rfl) (by exact qb rfl) ?_)
   (repeat' ((conv=>whnf);first|refine zA ?_|refine Ob.auto ?_|fail))
   (refine ⟨⟨Le.refl _,qa⟩,qdi rfl (SoLe.refl _)⟩)
  | cons k' ks=>
   obtain ⟨h3,h4⟩:=h2 k k' ks p frm to hp
   refine qdj (T:=tab Tryz.prog) (C:={}) 5 300 (fun _=>rfl) Tryz.func40 rfl (by kernel_rfl) (by kernel_rfl) (fun c0 rdb mpb=>?_)
   (repeat' ((conv=>whnf);first|(refine Ob.intro (by (exact ⟨by omega,by first|omega|(simp;omega)⟩)) ?_)|refine zC 300 (qli p (by omega) (by omega)) ?_|(refine zQ 300 ?_)|(apply zB <;> intro hb <;> (try simp [-zd] at hb) <;> try (exfalso;omega))))
   ((conv=>whnf);refine CallY.trip [0,1] (h3) (by kernel_rfl) leA qa (by exact qb rfl) (by exact qb rfl) ?_)
   (repeat' ((conv=>whnf);first|refine Ob.auto ?_|fail))
   ((conv=>whnf);refine AltG.none (by kernel_rfl) (EndG.go ?_))
   ((conv=>whnf);refine qdp [0,1,2,3,4] 3 rfl frzA ?_)
   (repeat' ((conv=>whnf);first|(refine Ob.intro (by (exact ⟨by omega,by first|omega|(simp;omega)⟩)) ?_)|(refine zQ 300 ?_)|fail))
   ((conv=>whnf);refine CallY.trip [0,1] (ih (st (qg p) k frm p.places) p.places to h4) (by kernel_rfl) ⟨Le.refl _,Le.refl _,Le.slc (by simp) (fun i hi=>by rw [show Int.toNat 1=1 from rfl,Nat.add_comm];rfl),Le.refl _,Le.refl _,Le.refl _,trivial⟩ qa (by exact qb rfl) (by exact qb rfl) ?_)
   (repeat' ((conv=>whnf);first|refine zA ?_|refine Ob.auto ?_|fail))
   (refine ⟨⟨Le.refl _,qa⟩,qdi rfl (SoLe.refl _)⟩)
end
end Go.Proofs.YtikahnkkfkoglaaGreatDoor
end
section
namespace Go.Proofs.YtikahnkkfkoglaaGreatDoor
open Go Go.Sx Go.RowKit Go.St
set_option maxRecDepth 100000
set_option maxHeartbeats 8000000
section
variable (m:Md) (nv:Nat) (fv:Nat→List AV) (np:Nat) (fp:Nat→List AV) (p:Pr) (a frm to:Int) (h0:0≤a) (h1:a<m.tree.length)
abbrev qgh (m:Md) (nv:Nat) (fv:Nat→List AV) (np:Nat) (fp:Nat→List AV) (p:Pr) (a frm to:Int) (q:Pr):Prop:=qik 67 [mdO m nv np,prV p,iv a,iv frm,iv to] [vrSO nv fv,pcSO np fp] q
abbrev qlj (m:Md) (nv:Nat) (fv:Nat→List AV) (np:Nat) (fp:Nat→List AV) (p:Pr) (a frm to:Int) (q:Pr):Prop:=qik 104 [mdO m nv np,prV p,iv a,iv frm,iv to] [vrSO nv fv,pcSO np fp] q
include h0 h1 in
theorem stat6_trip (hk:(m.tree.getD a.toNat nd0).kind=6) (hk1:(m.tree.getD a.toNat nd0).kids.length=1) (hw1:(m.tree.getD a.toNat nd0).words.length=1) (hE:p.edges.length≤50000) (hn:p.names.length=p.vars.length∧p.names.length≤100000)
  (hf:0≤qcm p.names ((m.tree.getD a.toNat nd0).words.getD 0 [])∧qcm p.names ((m.tree.getD a.toNat nd0).words.getD 0 [])<p.names.length) :
  qgh m nv fv np fp p a frm to (putF p frm to 1 a ((m.tree.getD a.toNat nd0).kids.getD 0 0) (p.vars.getD (qcm p.names ((m.tree.getD a.toNat nd0).words.getD 0 [])).toNat 0) (-1)):=by
 refine qdj (T:=tab Tryz.prog) (C:={}) 5 1500 (fun _=>rfl) Tryz.func67 rfl (by kernel_rfl) (by kernel_rfl) (fun c0 rdb mpb=>?_)
 (repeat' ((conv=>whnf);first|refine Ob.auto ?_|(refine CallY.con (jhl p.names (by omega) ((m.tree.getD a.toNat nd0).words.getD 0 [])) (by rfl) leA ?_)|(refine zQ 1500 ?_)|(apply zB <;> intro hb <;> (try simp [-List.getD_eq_getElem?_getD] at hb) <;> try (exfalso;omega))))
 ((conv=>whnf);refine CallY.trip [] (qda p (by omega) frm to 1 a ((m.tree.getD a.toNat nd0).kids.getD 0 0) (p.vars.getD (qcm p.names ((m.tree.getD a.toNat nd0).words.getD 0 [])).toNat 0) (-1)) (by kernel_rfl) leA qa (by exact qb rfl) (by exact qb rfl) ?_)
 (repeat' ((conv=>whnf);first|refine zA ?_|refine Ob.auto ?_|fail))
 (refine ⟨⟨Le.refl _,qa⟩,qdi rfl (SoLe.refl _)⟩)
include h0 h1 in
theorem stat7_trip (hk:(m.tree.getD a.toNat nd0).kind=7) (hk1:(m.tree.getD a.toNat nd0).kids.length=1) (hw1:(m.tree.getD a.toNat nd0).words.length=1) (hE:p.edges.length≤50000) (hC:m.chans.length≤1000000) :
  qgh m nv fv np fp p a frm to (putF p frm to 2 a ((m.tree.getD a.toNat nd0).kids.getD 0 0) (-1) (qfg m.chans ((m.tree.getD a.toNat nd0).words.getD 0 []))):=by
 refine qdj (T:=tab Tryz.prog) (C:={}) 5 1500 (fun _=>rfl) Tryz.func67 rfl (by kernel_rfl) (by kernel_rfl) (fun c0 rdb mpb=>?_)
 (repeat' ((conv=>whnf);first|refine Ob.auto ?_|(refine zQ 1500 ?_)|(apply zB <;> intro hb <;> (try simp [-List.getD_eq_getElem?_getD] at hb) <;> try (exfalso;omega))))
 ((conv=>whnf);refine CallY.lend (jhm m nv fv np fp hC ((m.tree.getD a.toNat nd0).words.getD 0 [])) (by repeat' (first|exact trivial|exact ⟨rfl,rfl⟩|exact rfl|assumption|(refine And.intro ?_ ?_)|(intro _))) leA (by rfl) ?_)
 ((conv=>whnf);refine CallY.trip [] (qda p (by omega) frm to 2 a ((m.tree.getD a.toNat nd0).kids.getD 0 0) (-1) (qfg m.chans ((m.tree.getD a.toNat nd0).words.getD 0 []))) (by kernel_rfl) leA qa (by exact qb rfl) (by exact qb rfl) ?_)
 (repeat' ((conv=>whnf);first|refine Ob.auto ?_|fail))
 ((conv=>whnf);refine AltG.same 14 (by kernel_rfl) (by repeat' (first|exact trivial|exact fun h=>Bool.noConfusion h|exact fun _=>⟨rfl,rfl⟩|(refine And.intro ?_ ?_))) (EndG.go ?_))
 (repeat' ((conv=>whnf);first|refine Ob.auto ?_|fail))
 (refine ⟨⟨Le.refl _,qa⟩,qdi rfl (SoLe.refl _)⟩)
end
end Go.Proofs.YtikahnkkfkoglaaGreatDoor
end
section
namespace Go.Proofs.YtikahnkkfkoglaaGreatDoor
open List renaming getD_eq_getElem?_getD → zd
open Go Go.Sx Go.RowKit Go.St
set_option maxRecDepth 100000
set_option maxHeartbeats 8000000
section
variable (m:Md) (nv:Nat) (fv:Nat→List AV) (np:Nat) (fp:Nat→List AV) (p:Pr) (a frm to:Int) (h0:0≤a) (h1:a<m.tree.length)
include h0 h1 in
theorem stat8_trip (hk:(m.tree.getD a.toNat nd0).kind=8) (hn1:(m.tree.getD a.toNat nd0).nums.length=1) (hw2:(m.tree.getD a.toNat nd0).words.length=2) (hE:p.edges.length≤50000) (hC:m.chans.length≤1000000) (hn:p.names.length=p.vars.length∧p.names.length≤100000)
  (hf:0≤qcm p.names ((m.tree.getD a.toNat nd0).words.getD 1 [])∧qcm p.names ((m.tree.getD a.toNat nd0).words.getD 1 [])<p.names.length) (hF:0≤frm∧frm<p.rest.length) (hR:p.rest.length≤100000) :
  qgh m nv fv np fp p a frm to (putF (qad p frm ((m.tree.getD a.toNat nd0).nums.getD 0 0)) frm to 3 a (-1) (p.vars.getD (qcm p.names ((m.tree.getD a.toNat nd0).words.getD 1 [])).toNat 0) (qfg m.chans ((m.tree.getD a.toNat nd0).words.getD 0 []))):=by
 have hE2:(qad p frm ((m.tree.getD a.toNat nd0).nums.getD 0 0)).edges.length≤100000:=by show p.edges.length≤100000;omega
 have e1:(qad p frm ((m.tree.getD a.toNat nd0).nums.getD 0 0)).vars.length=p.vars.length:=rfl
 refine qdj (T:=tab Tryz.prog) (C:={}) 5 1500 (fun _=>rfl) Tryz.func67 rfl (by kernel_rfl) (by kernel_rfl) (fun c0 rdb mpb=>?_)
 (repeat' ((conv=>whnf);first|refine zA ?_|refine Ob.auto ?_|(refine CallY.con (jhl p.names (by omega) ((m.tree.getD a.toNat nd0).words.getD 1 [])) (by rfl) leA ?_)|(refine CallY.con (qyq p frm ((m.tree.getD a.toNat nd0).nums.getD 0 0) hF hR) (by rfl) leA ?_)|(refine zQ 1500 ?_)|(apply zB <;> intro hb <;> (try simp [-zd] at hb) <;> try (exfalso;omega))))
 ((conv=>whnf);refine CallY.lend (jhm m nv fv np fp hC ((m.tree.getD a.toNat nd0).words.getD 0 [])) (by repeat' (first|exact trivial|exact ⟨rfl,rfl⟩|exact rfl|assumption|(refine And.intro ?_ ?_)|(intro _))) leA (by rfl) ?_)
 ((conv=>whnf);refine CallY.trip [] (qda (qad p frm ((m.tree.getD a.toNat nd0).nums.getD 0 0)) hE2 frm to 3 a (-1) (p.vars.getD (qcm p.names ((m.tree.getD a.toNat nd0).words.getD 1 [])).toNat 0) (qfg m.chans ((m.tree.getD a.toNat nd0).words.getD 0 []))) (by kernel_rfl) leA qa (by exact qb rfl) (by exact qb rfl) ?_)
 (repeat' ((conv=>whnf);first|refine Ob.auto ?_|fail))
 ((conv=>whnf);refine AltG.same 21 (by kernel_rfl) (by repeat' (first|exact trivial|exact fun h=>Bool.noConfusion h|exact fun _=>⟨rfl,rfl⟩|(refine And.intro ?_ ?_))) (EndG.go ?_))
 (repeat' ((conv=>whnf);first|refine Ob.auto ?_|fail))
 (refine ⟨⟨Le.refl _,qa⟩,qdi rfl (SoLe.refl _)⟩)
include h0 h1 in
theorem stat9_trip (hk:(m.tree.getD a.toNat nd0).kind=9) (hk1:(m.tree.getD a.toNat nd0).kids.length=1) (hn1:(m.tree.getD a.toNat nd0).nums.length=1) (hE:p.edges.length≤50000) (hF:0≤frm∧frm<p.rest.length) (hR:p.rest.length≤100000) :
  qgh m nv fv np fp p a frm to (putF (qad p frm ((m.tree.getD a.toNat nd0).nums.getD 0 0)) frm to 4 a ((m.tree.getD a.toNat nd0).kids.getD 0 0) (-1) (-1)):=by
 have hE2:(qad p frm ((m.tree.getD a.toNat nd0).nums.getD 0 0)).edges.length≤100000:=by show p.edges.length≤100000;omega
 refine qdj (T:=tab Tryz.prog) (C:={}) 5 1500 (fun _=>rfl) Tryz.func67 rfl (by kernel_rfl) (by kernel_rfl) (fun c0 rdb mpb=>?_)
 (repeat' ((conv=>whnf);first|refine zA ?_|refine Ob.auto ?_|(refine CallY.con (qyq p frm ((m.tree.getD a.toNat nd0).nums.getD 0 0) hF hR) (by rfl) leA ?_)|(refine zQ 1500 ?_)|(apply zB <;> intro hb <;> (try simp [-zd] at hb) <;> try (exfalso;omega))))
 ((conv=>whnf);refine CallY.trip [] (qda (qad p frm ((m.tree.getD a.toNat nd0).nums.getD 0 0)) hE2 frm to 4 a ((m.tree.getD a.toNat nd0).kids.getD 0 0) (-1) (-1)) (by kernel_rfl) leA qa (by exact qb rfl) (by exact qb rfl) ?_)
 (repeat' ((conv=>whnf);first|refine zA ?_|refine Ob.auto ?_|fail))
 (refine ⟨⟨Le.refl _,qa⟩,qdi rfl (SoLe.refl _)⟩)
include h0 h1 in
theorem stat15_trip (hk:(m.tree.getD a.toNat nd0).kind=15) (hE:p.edges.length≤50000):qgh m nv fv np fp p a frm to (putF p frm 1 0 a (-1) (-1) (-1)):=by
 refine qdj (T:=tab Tryz.prog) (C:={}) 5 1500 (fun _=>rfl) Tryz.func67 rfl (by kernel_rfl) (by kernel_rfl) (fun c0 rdb mpb=>?_)
 (repeat' ((conv=>whnf);first|refine Ob.auto ?_|(apply zB <;> intro hb <;> (try simp [-zd] at hb) <;> try (exfalso;omega))))
 (first|((conv=>whnf);refine zT 1500 [] (qda p (by omega) frm 1 0 a (-1) (-1) (-1)) qa ?_)|((conv=>whnf);refine CallY.trip [] (qda p (by omega) frm 1 0 a (-1) (-1) (-1)) (by kernel_rfl) leA qa (by exact qb rfl) (by exact qb rfl) ?_))
 (repeat' ((conv=>whnf);first|refine Ob.auto ?_|fail))
 (refine ⟨⟨Le.refl _,qa⟩,qdi rfl (SoLe.refl _)⟩)
include h0 h1 in
theorem stat14_trip (hk:(m.tree.getD a.toNat nd0).kind=14) (hE:p.edges.length≤50000):qgh m nv fv np fp p a frm to (putF p frm to 0 a (-1) (-1) (-1)):=by
 refine qdj (T:=tab Tryz.prog) (C:={}) 5 1500 (fun _=>rfl) Tryz.func67 rfl (by kernel_rfl) (by kernel_rfl) (fun c0 rdb mpb=>?_)
 (repeat' ((conv=>whnf);first|refine Ob.auto ?_|(apply zB <;> intro hb <;> (try simp [-zd] at hb) <;> try (exfalso;omega))))
 (first|((conv=>whnf);refine zT 1500 [] (qda p (by omega) frm to 0 a (-1) (-1) (-1)) qa ?_)|((conv=>whnf);refine CallY.trip [] (qda p (by omega) frm to 0 a (-1) (-1) (-1)) (by kernel_rfl) leA qa (by exact qb rfl) (by exact qb rfl) ?_))
 (repeat' ((conv=>whnf);first|refine Ob.auto ?_|fail))
 (refine ⟨⟨Le.refl _,qa⟩,qdi rfl (SoLe.refl _)⟩)
end
end Go.Proofs.YtikahnkkfkoglaaGreatDoor
end
