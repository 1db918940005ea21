/- Some texts of the library, one behind the other. -/
import Derived.Test.YtikahnkkfkoglaaGreatDoorY135
import Derived.Test.YtikahnkkfkoglaaGreatDoorY16
import Derived.Test.YtikahnkkfkoglaaGreatDoorY12
import Derived.Test.YtikahnkkfkoglaaGreatDoorY1MkQ
set_option linter.unusedSimpArgs false
set_option linter.unusedVariables false
section
namespace Go.Proofs.YtikahnkkfkoglaaGreatDoor
open List renaming getD_eq_getElem?_getD → zd
open Go Go.Sx Go.RowKit Go.St
set_option maxRecDepth 100000
set_option maxHeartbeats 4000000
theorem jte {α:Type} {q:α→Bool} {L:List α} (d:α) {i:Nat} (hi:i<L.length) (h:q (L.getD i d)=true):L.any q=true:=List.any_eq_true.2 ⟨_,qm L i d hi,h⟩
theorem jtf {α:Type} {q:α→Bool} {L:List α} (d:α) (h:∀ j,j<L.length→q (L.getD j d)=false):L.any q=false:=by
 rw [xj]
 intro h'
 obtain ⟨x,hx,he⟩:=List.any_eq_true.1 h'
 obtain ⟨j,hj,rfl⟩:=List.mem_iff_getElem.1 hx
 have:=h j hj
 rw [zd,ze hj] at this
 simp only [zaj] at this
 rw [this] at he;cases he
theorem jtg {q:Nat→Bool} {n i:Nat} (hi:i<n) (h:q i=true):(List.range n).any q=true:=List.any_eq_true.2 ⟨i,List.mem_range.2 hi,h⟩
theorem jth {q:Nat→Bool} {n:Nat} (h:∀ j,j<n→q j=false):(List.range n).any q=false:=by
 rw [xj]
 intro h'
 obtain ⟨x,hx,he⟩:=List.any_eq_true.1 h'
 rw [h x (List.mem_range.1 hx)] at he;cases he
theorem jfj {l:List Nd} (ht:Tree l) (a:Int) (h0:0≤a) (h1:a<l.length):0≤itemF l a∧itemF l a<l.length:=by
 have hlen:=ht.len
 by_cases h:a=0
 ·subst h
  have:itemF l 0=0:=by
   unfold itemF
   exact qro 0 _ 0 fun k hk=>(ht.kids 0 (by omega) k hk).1
  omega
 ·have h2:=ht.item (j:=a.toNat) (by omega) (by omega)
  rw [show ((a.toNat:Nat):Int)=a by omega] at h2
  have:=ht.kids 0 (by omega) _ h2.1.1
  omega
theorem jti (l:List Nd) (ht:Tree l) (i:Nat) (h1:i<l.length):Con Tryz.prog 131 [jr l,iv i] (iv (qfr l i)):=by
 have hlen:=ht.len
 have hk0:=(ht.kidsLen (j:=0) (by omega)).1
 have hit:=jfj ht i (by omega) (by omega)
 have hln:=(ht.lens (itemF l i).toNat (by omega)).n1
 refine zK {} 300 Tryz.func131 (fun c0 rdb=>?_)
 (repeat' ((conv=>whnf);first|refine Ob.auto ?_|refine zC 300 (qsk l (by omega) (by omega) _) ?_|(apply zB <;> intro hb <;> (try simp [-zd] at hb) <;> try (exfalso;omega))))
 ·refine Le.of_eq (congrArg (AV.int _) ?_)
  rw [qfr,zb (by unfold qp;exact hb)];rfl
 ·refine Le.of_eq (congrArg (AV.int _) ?_)
  rw [qfr,za (by unfold qp;exact hb)]
theorem qxf (l:List Nd) (kind:Int) (i:Nat):sumF l kind (i+1)=qhl l kind (sumF l kind i) i:=by
 unfold sumF
 rw [zbl,zae];rfl
theorem jfk {l:List Nd} (ht:Tree l) (i:Nat) (h1:i<l.length):0≤qfr l i:=by
 have hit:=jfj ht i (by omega) (by omega)
 have hln:=(ht.lens (itemF l i).toNat (by omega)).num
 unfold qfr qp
 split
 ·exact (hln (by omega)).1
 ·omega
theorem jfl {l:List Nd} (ht:Tree l) (kind:Int):∀ i,i≤l.length→0≤sumF l kind i∧sumF l kind i≤200
 | 0,_=>by simp [sumF]
 | i+1,h=>by
  have h1:=jfl ht kind i (by omega)
  have h2:=jfk ht i (by omega)
  rw [qxf]
  unfold qhl
  (repeat' split) <;> omega
theorem jfm (l:List Nd) (kind:Int) (i:Nat) (h:100≤sumF l kind i):∀ k,sumF l kind (i+k)=sumF l kind i
 | 0=>rfl
 | k+1=>by
  have ih:=jfm l kind i h k
  rw [show i+(k+1)=i+k+1 by omega,qxf,ih]
  unfold qhl
  rw [za (by omega)]
theorem qxg (l:List Nd) (ht:Tree l) (a:Nat) (h1:a<l.length) (kind:Int):Con Tryz.prog 99 [jr l,iv a,iv kind] (iv (sumF l kind (a+1))):=by
 have hlen:=ht.len
 refine zK {} 300 Tryz.func99 (fun c0 rdb=>?_)
 ((conv=>whnf);refine qo (fun _=>rfl) 300 1 (fun g:Nat × Int=>[(8,iv g.1),(7,iv g.2)]) (fun _=>[]) (fun g=>g.1≤a+1∧g.2=sumF l kind g.1) (fun g=>a+1 - g.1) ((0,0)) (⟨by simp,rfl⟩) qa qa (fun _=>rfl) (by kernel_rfl) ?_;(conv=>whnf))
 rintro ⟨i,n⟩ ⟨hi,hn⟩
 simp only at hi hn
 have hsb:=jfl ht kind i (by omega)
 have hsu:=qxf l kind i
 have hcg:i<l.length→_:=fun h=>jfk ht i h
 rw [← hn] at hsu hsb
 unfold qhl at hsu
 (repeat' ((conv=>whnf);first|refine Ob.auto ?_|(refine Ob.intro (by (first|exact ⟨by omega,by omega⟩|exact qeh (by have:=hcg (by omega);simp only [cond_true,cond_false,Bool.cond_decide];omega) (by have:=hcg (by omega);simp only [cond_true,cond_false,Bool.cond_decide];omega))) ?_)|refine zC 300 (jti l ht i (by omega)) ?_|(apply zB <;> intro hb <;> (try simp [-zd] at hb) <;> try (exfalso;omega))))
 ·((conv=>whnf);refine ⟨(i+1,n),⟨by simp only;omega,by rw [hsu,zb (by omega),za (by assumption)]⟩,⟨qa,qa⟩,⟨qa,qa⟩,?_⟩;(first|omega|(dsimp only;omega)|skip))
 ·((conv=>whnf);refine ⟨(i+1,n+1),⟨by simp only;omega,by rw [hsu,zb (by omega),zb (by assumption),zb (by assumption)]⟩,⟨qa,qa⟩,⟨qa,qa⟩,?_⟩;(first|omega|(dsimp only;omega)|skip))
 ·((conv=>whnf);refine ⟨(i+1,n+min (qfr l i) 100),⟨by simp only;omega,by rw [hsu,zb (by omega),zb (by assumption),za (by assumption)]⟩,⟨qa,qa⟩,⟨qa,qa⟩,?_⟩;(first|omega|(dsimp only;omega)|skip))
 ·refine Le.of_eq (congrArg (AV.int _) ?_)
  by_cases hia:i≤a
  ·have:=jfm l kind i (by omega) (a+1 - i)
   rw [show i+(a+1 - i)=a+1 by omega] at this
   rw [this,hn]
  ·rw [show a+1=i by omega,hn]
theorem jtj (l:List Nd) (ht:Tree l) (a:Int):∀ (f:Nat) (b:Int),0≤b→b<l.length→l.length - b.toNat≤f→Con Tryz.prog 100 [jr l,iv a,iv b] (.bool (qns l a f b)):=by
 intro f
 induction f with
 | zero=>intro b h0 h1 h2;omega
 | succ f ih=>
  intro b h0 h1 h2
  have hkl:=(ht.kidsLen (j:=b.toNat) (by omega)).1
  have hk:=ht.kids b.toNat (by omega)
  have hkg:∀ i,i<(l.getD b.toNat nd0).kids.length→b<(l.getD b.toNat nd0).kids.getD i 0∧(l.getD b.toNat nd0).kids.getD i 0<l.length:=fun i hi=>by have:=hk _ (qm _ i 0 hi);omega
  refine zK {} 300 Tryz.func100 (fun c0 rdb=>?_)
  ((conv=>whnf);refine qo (fun _=>rfl) 300 1 (fun i:Nat=>[(7,iv i)]) (fun _=>[]) (fun i=>i≤(l.getD b.toNat nd0).kids.length∧∀ j,j<i→((l.getD b.toNat nd0).kids.getD j 0 == a || qns l a f ((l.getD b.toNat nd0).kids.getD j 0))=false) (fun i=>(l.getD b.toNat nd0).kids.length - i) (0) (⟨by omega,fun j hj=>absurd hj (zj j)⟩) qa qa (fun _=>rfl) (by kernel_rfl) ?_;(conv=>whnf))
  intro i hi
  have hki:i<(l.getD b.toNat nd0).kids.length→_:=hkg i
  (repeat' ((conv=>whnf);first|refine Ob.auto ?_|refine zG 300 (fun hg=>ih ((l.getD b.toNat nd0).kids.getD i 0) (by omega) (by omega) (by omega)) ?_|(apply zB <;> intro hb <;> (try simp [-zd] at hb) <;> try (exfalso;omega))))
  ·refine Le.of_eq (congrArg AV.bool ?_)
   exact (jte 0 (i:=i) (by omega) (by rw [zaa,xx];exact hb)).symm
  ·((conv=>whnf);refine ⟨i+1,⟨by omega,qbe hi.2 (by rw [xy,beq_eq_false_iff_ne];exact hb)⟩,⟨qa,qa⟩,⟨qa,qa⟩,?_⟩;(first|omega|(dsimp only;omega)|skip))
  ·refine Le.of_eq (congrArg AV.bool ?_)
   exact (jtf 0 (fun j hj=>hi.2 j (by omega))).symm
theorem jtk (l:List Nd) (ht:Tree l) (i:Nat) (h1:i<l.length):Con Tryz.prog 65 [jr l,iv i] (iv (qbi l i)):=by
  have hlen:=ht.len
  have hln:=ht.lens i h1
  have hn4:=hln.n4
  have hn2:=hln.n2
  have hn1:=hln.n1
  refine zK {} 600 Tryz.func65 (fun c0 rdb=>?_)
  (repeat' ((conv=>whnf);first|refine zO ?_|refine Ob.auto ?_|refine zG 600 (fun hg=>qxg l ht i h1 1) ?_|refine zY (fun hg=>qxg l ht i h1 2) ?_|refine zG 600 (fun hg=>qxg l ht i h1 3) ?_|refine zY (fun hg=>qun _ _) ?_|(refine zP 600 ?_)|(apply zB <;> intro hb <;> (try simp [-zd] at hb) <;> try (exfalso;omega))))
  all_goals first
    | (refine Le.of_eq (congrArg iv ?_)
       rw [qbi]
       ((repeat (first|rw [zb (by omega)]|rw [za (by omega)])) <;> rfl))
    | skip
  ((conv=>whnf);refine qo (fun _=>rfl) 600 1 (fun j:Nat=>[(7,iv j)]) (fun _=>[]) (fun j=>j≤i∧∀ k,k<j→((l.getD k nd0).kind == 13 && qns l i l.length k)=false) (fun j=>i - j) (0) (⟨by omega,fun j hj=>absurd hj (zj j)⟩) qa qa (fun _=>rfl) (by kernel_rfl) ?_;(conv=>whnf))
  intro j hj
  (repeat' ((conv=>whnf);first|refine Ob.auto ?_|refine zG 600 (fun hg=>jtj l ht i l.length j (by omega) (by omega) (by omega)) ?_|(apply zB <;> intro hb <;> (try simp [-zd] at hb) <;> try (exfalso;omega))))
  · refine Le.of_eq (congrArg iv ?_)
    rw [qbi,za (by omega),za (by omega),za (by omega),zb (by assumption),zb (jtg (i:=j) (by omega) (by rw [zf,xx];exact hb))]
  · ((conv=>whnf);refine ⟨j+1,⟨by omega,qbe hj.2 (by rw [Bool.and_eq_false_imp,xx];exact hb)⟩,⟨qa,qa⟩,⟨qa,qa⟩,?_⟩;(first|omega|(dsimp only;omega)|skip))
  all_goals
    refine Le.of_eq (congrArg iv ?_)
    rw [qbi,za (by omega),za (by omega),za (by omega),zb (by assumption),za (by rw [jth (fun k hk=>hj.2 k (by omega))];decide)]
    done
theorem jfn (l:List Nd) (ht:Tree l):Con Tryz.prog 39 [jr l] (flt (qbx l).1 (qbx l).2):=by
 have hlen:=ht.len
 refine zK {} 300 Tryz.func39 (fun c0 rdb=>?_)
 (repeat' ((conv=>whnf);first|refine Ob.auto ?_|refine zC 300 (jtd l ht) ?_|(apply zB <;> intro hb <;> (try simp [-zd] at hb) <;> try (exfalso;omega))))
 ·refine Le.of_eq ?_
  rw [qbx,zb (by omega)];rfl
 ·((conv=>whnf);refine qo (fun _=>rfl) 300 1 (fun i:Nat=>[(4,iv i)]) (fun _=>[]) (fun i=>i≤l.length∧∀ j,j<i→(qbi l j != 0)=false) (fun i=>l.length - i) (0) (⟨by omega,fun j hj=>absurd hj (zj j)⟩) qa qa (fun _=>rfl) (by kernel_rfl) ?_;(conv=>whnf))
  intro i hi
  have hr:∀ j,j<(List.range l.length).length→j<l.length:=fun j hj=>by simpa using hj
  (repeat' ((conv=>whnf);first|refine Ob.auto ?_|refine zC 300 (jtk l ht i (by omega)) ?_|(apply zB <;> intro hb <;> (try simp [-zd] at hb) <;> try (exfalso;omega))))
  ·rename_i h0 h1
   have h1':i<l.length:=by omega
   have:=qhg (fun i=>qbi l i != 0) (List.range l.length) 0 i (by simpa using h1') (by rw [qhi _ _ _ (by omega)];simpa using hb) (fun j hj=>by rw [qhi _ _ _ (by omega)];exact hi.2 j hj)
   refine Le.of_eq ?_
   rw [qbx,za (by omega),this,za (by omega)];rfl
  ·((conv=>whnf);refine ⟨i+1,⟨by omega,qbe hi.2 (by simpa using hb)⟩,⟨qa,qa⟩,⟨qa,qa⟩,?_⟩;(first|omega|(dsimp only;omega)|skip))
  ·have:=qhh (fun i=>qbi l i != 0) (List.range l.length) 0 (fun j hj=>by have hj':=hr j hj;rw [qhi _ _ _ hj'];exact hi.2 j (by omega))
   refine Le.of_eq ?_
   rw [qbx,za (by omega),this,zb (by omega)];rfl
def prV (p:Pr):AV:=.agg p.cells
def prO (k:Nat) (p:Pr):AV:=.agg [.str p.name,iv p.copy,ints p.locals,iv p.places,qlg p.rest,.own k 0 0 p.edges.length,strs p.names,ints p.vars]
abbrev edSO (p:Pr):SO:=.row [] 83 8 0 p.edges.length (encL Ed.cells ed0 p.edges)
abbrev qht (f:FuncId) (args:List AV) (st0:List SO) (p:Pr):Prop:=Trip Tryz.prog f args st0 (prO st0.length p) (Go.Sx.idx 0 (st0++[edSO p])) (st0.length+1)
abbrev vrSO (n:Nat) (f:Nat→List AV):SO:=.row [] 90 3 0 n f
abbrev pcSO (n:Nat) (f:Nat→List AV):SO:=.row [] 80 8 0 n f
theorem jfo (L:List (List UInt8)) (hL:L.length≤1000000) (s:List UInt8):Con Tryz.prog 101 [strs L,.str s] (iv (qcf L s)):=by
 refine zK {} 300 Tryz.func101 (fun c0 rdb=>?_)
 ((conv=>whnf);refine qo (fun _=>rfl) 300 1 (fun i:Nat=>[(5,iv i)]) (fun _=>[]) (fun i=>i≤L.length∧∀ j,j<i→(L.getD j [] == s)=false) (fun i=>L.length - i) (0) (⟨by omega,fun j hj=>absurd hj (zj j)⟩) qa qa (fun _=>rfl) (by kernel_rfl) ?_;(conv=>whnf))
 intro i hi
 (repeat' ((conv=>whnf);first|refine Ob.auto ?_|(apply zB <;> intro hb <;> (try simp [-zd] at hb) <;> try (exfalso;omega))))
 ·refine Le.of_eq (congrArg (AV.int _) ?_)
  rw [qcf,qhg (· == s) L [] i (by omega) (beq_iff_eq.2 hb) hi.2,za (by omega)]
 ·((conv=>whnf);refine ⟨i+1,⟨by omega,qbe hi.2 (beq_eq_false_iff_ne.2 hb)⟩,⟨qa,qa⟩,⟨qa,qa⟩,?_⟩;(first|omega|(dsimp only;omega)|skip))
 ·refine Le.of_eq (congrArg (AV.int _) ?_)
  rw [qcf,qhh (· == s) L [] (fun j hj=>hi.2 j (by omega)),zb (by omega)]
def mdR (m:Md) (nv:Nat) (fv:Nat→List AV) (np:Nat) (fp:Nat→List AV):AV:=.agg [jr m.tree,iv m.globals,slcL Ch.cells ch0 5 m.chans,.slc 3 nv fv,.slc 8 np fp,ints m.safe,.bool m.dead]
theorem jfp (m:Md) (nv:Nat) (fv:Nat→List AV) (np:Nat) (fp:Nat→List AV) (hL:m.chans.length≤1000000) (s:List UInt8):Con Tryz.prog 102 [mdR m nv fv np fp,.str s] (iv (qeu m.chans s)):=by
 refine zK {} 300 Tryz.func102 (fun c0 rdb=>?_)
 ((conv=>whnf);refine qo (fun _=>rfl) 300 1 (fun i:Nat=>[(5,iv i)]) (fun _=>[]) (fun i=>i≤m.chans.length∧∀ j,j<i→((m.chans.getD j ch0).name == s)=false) (fun i=>m.chans.length - i) (0) (⟨by omega,fun j hj=>absurd hj (zj j)⟩) qa qa (fun _=>rfl) (by kernel_rfl) ?_;(conv=>whnf))
 intro i hi
 (repeat' ((conv=>whnf);first|refine Ob.auto ?_|(apply zB <;> intro hb <;> (try simp [-zd] at hb) <;> try (exfalso;omega))))
 ·refine Le.of_eq (congrArg (AV.int _) ?_)
  rw [qeu,qhg (fun c:Ch=>c.name == s) m.chans ch0 i (by omega) (beq_iff_eq.2 hb) hi.2,za (by omega)]
 ·((conv=>whnf);refine ⟨i+1,⟨by omega,qbe hi.2 (beq_eq_false_iff_ne.2 hb)⟩,⟨qa,qa⟩,⟨qa,qa⟩,?_⟩;(first|omega|(dsimp only;omega)|skip))
 ·refine Le.of_eq (congrArg (AV.int _) ?_)
  rw [qeu,qhh (fun c:Ch=>c.name == s) m.chans ch0 (fun j hj=>hi.2 j (by omega)),zb (by omega)]
theorem jfq {α:Type} (enc:α→List AV) (d:α) (L:List α) (g:Nat→List AV) (x:α) (h:g 0=enc x) (f:Nat→List AV) (i:Nat) (hi:i<0+L.length+1):appF (0+L.length) (appF 0 f L.length (encL enc d L)) 1 g i=encL enc d (L++[x]) i:=by
 simp only [appF,encL,qjr,zo] at *
 by_cases h1:i<L.length
 ·rw [zb h1,zb h1,za (by omega),zb (by omega),zah]
 ·obtain rfl:i=L.length:=by omega
  rw [za h1,zb (by omega),zar,h]
  simp
theorem qkl (p:Pr) (hp:0≤p.places∧p.places≤100000) (hr:p.rest.length≤100000):Con Tryz.prog 68 [prV p] (.tup [prV (qg p),iv p.places]):=by
 refine zK {lit:=true} 300 Tryz.func68 (fun c0 rdb=>?_)
 (repeat' ((conv=>whnf);first|refine zO ?_|refine Ob.auto ?_|(refine zR 300 ?_)|fail))
 refine Le.tup ⟨Le.agg ⟨Le.refl _,Le.refl _,Le.refl _,Le.refl _,Le.slc ?_ (fun i hi=>?_),Le.refl _,Le.refl _,Le.refl _,trivial⟩,Le.of_eq (congrArg (AV.int _) ?_),trivial⟩
 ·simp [qg]
 ·exact jfq _ false p.rest _ false rfl _ i hi
 ·omega
theorem qcu (p:Pr) (hp:p.edges.length≤100000) (frm to act node expr v c:Int):qht 66 [prV p,iv frm,iv to,iv act,iv node,iv expr,iv v,iv c] [] (putF p frm to act node expr v c):=by
 refine qdc (T:=tab Tryz.prog) (C:={lit:=true}) 5 300 (fun _=>rfl) Tryz.func66 rfl (by kernel_rfl) (by kernel_rfl) (fun c0 rdb mpb=>?_)
 (repeat' ((conv=>whnf);first|refine Ob.auto ?_|fail))
 refine ⟨⟨Le.agg ⟨Le.refl _,Le.refl _,Le.refl _,Le.refl _,Le.refl _,Le.of_eq (congrArg (AV.own _ _ _) ?_),Le.refl _,Le.refl _,trivial⟩,trivial⟩,qdb rfl ⟨⟨rfl,rfl,rfl⟩,rfl,?_,fun i hi=>LeL.of_eq ?_⟩⟩
 ·simp [putF]
 ·simp [putF]
 ·exact jfq _ ed0 p.edges _ _ rfl _ i hi
theorem qxh (p:Pr) (a idle:Int) (ha:0≤a∧a<p.rest.length) (hr:p.rest.length≤100000):Con Tryz.prog 103 [prV p,iv a,iv idle] (prV (jy p a idle)):=by
 refine zK {lit:=true} 300 Tryz.func103 (fun c0 rdb=>?_)
 (repeat' ((conv=>whnf);first|refine Ob.auto ?_|(apply zB <;> intro hb <;> (try simp [-zd] at hb) <;> try (exfalso;omega))))
 ·have hcell:∀ i,i<p.rest.length→appF 0 (chop 1 []) p.rest.length (encL (fun b=>[AV.bool b]) false p.rest) i=[AV.bool (p.rest.getD i false)]:=fun i hi=>by
   unfold appF encL
   rw [za (by omega),zb (by omega),zah]
  refine Le.agg ⟨Le.refl _,Le.refl _,Le.refl _,Le.refl _,Le.slc ?_ (fun i hi=>?_),Le.refl _,Le.refl _,Le.refl _,trivial⟩
  ·simp [jy,hb]
  ·have hi':i<p.rest.length:=by simpa using hi
   have hr':(jy p a idle).rest=p.rest.set a.toNat true:=by simp [jy,hb]
   rw [hr']
   by_cases e:i=a.toNat
   ·refine (zb e).trans ?_
    subst e
    refine (congrArg (fun z=>qas z 0 _) (hcell _ hi')).trans ?_
    simp only [encL,zd,List.getElem?_set_self hi'];rfl
   ·refine (za e).trans ((hcell i hi').trans ?_)
    simp only [encL,zd,List.getElem?_set_ne (Ne.symm e)]
 ·have hcell:∀ i,i<p.rest.length→appF 0 (chop 1 []) p.rest.length (encL (fun b=>[AV.bool b]) false p.rest) i=[AV.bool (p.rest.getD i false)]:=fun i hi=>by
   unfold appF encL
   rw [za (by omega),zb (by omega),zah]
  refine Le.agg ⟨Le.refl _,Le.refl _,Le.refl _,Le.refl _,Le.slc ?_ (fun i hi=>?_),Le.refl _,Le.refl _,Le.refl _,trivial⟩
  ·simp [jy,hb]
  ·have hi':i<p.rest.length:=by simpa using hi
   have hr':(jy p a idle).rest=p.rest:=by simp [jy,hb]
   rw [hr']
   exact hcell i hi'
def mdO (m:Md) (nv np:Nat):AV:=.agg [jr m.tree,iv m.globals,slcL Ch.cells ch0 5 m.chans,.own 0 0 0 nv,.own 1 0 0 np,ints m.safe,.bool m.dead]
section
variable (m:Md) (nv:Nat) (fv:Nat→List AV) (np:Nat) (fp:Nat→List AV)
theorem jfr (st:Pr→Int→Int→Int→Pr) (node:Int)
  (pre:List Int→Pr→Int→Int→Prop) (hsz:∀ ks p frm to,pre ks p frm to→(p.edges.length≤50000∧0≤p.places∧p.places≤50000∧p.rest.length≤50000)∧ks.length≤800)
  (h1:∀ k p frm to,pre [k] p frm to→qht 67 [mdO m nv np,prV p,iv k,iv frm,iv to] [vrSO nv fv,pcSO np fp] (st p k frm to))
  (h2:∀ k k' ks p frm to,pre (k::k'::ks) p frm to→qht 67 [mdO m nv np,prV (qg p),iv k,iv frm,iv p.places] [vrSO nv fv,pcSO np fp] (st (qg p) k frm p.places)∧pre (k'::ks) (st (qg p) k frm p.places) p.places to) :
  ∀ (ks:List Int) (p:Pr) (frm to:Int),pre ks p frm to→qht 40 [mdO m nv np,prV p,ints ks,iv node,iv frm,iv to] [vrSO nv fv,pcSO np fp] (qbf st node p ks frm to):=by
 intro ks
 induction ks with
 | nil=>
  intro p frm to hp
  have hs:=hsz _ _ _ _ hp
  refine qdc (T:=tab Tryz.prog) (C:={}) 5 300 (fun _=>rfl) Tryz.func40 rfl (by kernel_rfl) (by kernel_rfl) (fun c0 rdb mpb=>?_)
  (repeat' ((conv=>whnf);first|(apply zB <;> intro hb <;> (try simp [-zd] at hb) <;> try (exfalso;omega))))
  ·((conv=>whnf);refine zT 300 [] (qcu p (by omega) frm to 0 node (-1) (-1) (-1)) qa ?_)
   (repeat' ((conv=>whnf);first|refine Ob.auto ?_|fail))
   (refine ⟨⟨Le.refl _,qa⟩,qdb rfl (SoLe.refl _)⟩)
 | cons k ks ih=>
  intro p frm to hp
  have hs:=hsz _ _ _ _ hp
  cases ks with
  | nil=>
   refine qdc (T:=tab Tryz.prog) (C:={}) 5 300 (fun _=>rfl) Tryz.func40 rfl (by kernel_rfl) (by kernel_rfl) (fun c0 rdb mpb=>?_)
   (repeat' ((conv=>whnf);first|refine Ob.auto ?_|(refine zQ 300 ?_)|(apply zB <;> intro hb <;> (try simp [-zd] at hb) <;> try (exfalso;omega))))
   ((conv=>whnf);refine CallY.trip [0,1] (h1 k p frm to hp) (by kernel_rfl) leA qa (by exact qb rfl) (by exact qb rfl) ?_)
   (repeat' ((conv=>whnf);first|refine zA ?_|refine Ob.auto ?_|fail))
   (refine ⟨⟨Le.refl _,qa⟩,qdb rfl (SoLe.refl _)⟩)
  | cons k' ks=>
   obtain ⟨h3,h4⟩:=h2 k k' ks p frm to hp
   refine qdc (T:=tab Tryz.prog) (C:={}) 5 300 (fun _=>rfl) Tryz.func40 rfl (by kernel_rfl) (by kernel_rfl) (fun c0 rdb mpb=>?_)
   (repeat' ((conv=>whnf);first|(refine Ob.intro (by (exact ⟨by omega,by first|omega|(simp;omega)⟩)) ?_)|refine zC 300 (qkl p (by omega) (by omega)) ?_|(refine zQ 300 ?_)|(apply zB <;> intro hb <;> (try simp [-zd] at hb) <;> try (exfalso;omega))))
   ((conv=>whnf);refine CallY.trip [0,1] (h3) (by kernel_rfl) leA qa (by exact qb rfl) (by exact qb rfl) ?_)
   (repeat' ((conv=>whnf);first|refine Ob.auto ?_|fail))
   ((conv=>whnf);refine AltG.none (by kernel_rfl) (EndG.go ?_))
   ((conv=>whnf);refine qdi [0,1,2,3,4] 3 rfl frzA ?_)
   (repeat' ((conv=>whnf);first|(refine Ob.intro (by (exact ⟨by omega,by first|omega|(simp;omega)⟩)) ?_)|(refine zQ 300 ?_)|fail))
   ((conv=>whnf);refine CallY.trip [0,1] (ih (st (qg p) k frm p.places) p.places to h4) (by kernel_rfl) ⟨Le.refl _,Le.refl _,Le.slc (by simp) (fun i hi=>by rw [show Int.toNat 1=1 from rfl,Nat.add_comm];rfl),Le.refl _,Le.refl _,Le.refl _,trivial⟩ qa (by exact qb rfl) (by exact qb rfl) ?_)
   (repeat' ((conv=>whnf);first|refine zA ?_|refine Ob.auto ?_|fail))
   (refine ⟨⟨Le.refl _,qa⟩,qdb rfl (SoLe.refl _)⟩)
end
end Go.Proofs.YtikahnkkfkoglaaGreatDoor
end
