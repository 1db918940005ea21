/- Some texts of the library, one behind the other. -/
import Derived.Test.YtikahnkkfkoglaaGreatDoorY214
import Derived.Test.YtikahnkkfkoglaaGreatDoorY218
import Derived.Test.YtikahnkkfkoglaaGreatDoorY26
import Derived.Test.YtikahnkkfkoglaaGreatDoorY217
import Derived.Test.YtikahnkkfkoglaaGreatDoorY22
import Derived.Test.YtikahnkkfkoglaaGreatDoorY212
set_option linter.unusedSimpArgs false
set_option linter.unusedVariables false
section
namespace Go.Proofs.YtikahnkkfkoglaaGreatDoor
open List renaming getD_eq_getElem?_getD → zd
open Go Go.Sx Go.RowKit Go.St
set_option maxRecDepth 100000
set_option maxHeartbeats 4000000
theorem jsg (m:Md) (hM:ModOk m) (s:Stt) (hs:SSz s):Con Tryz.prog 47 [m.av,s.av] (.bool (fitsB m s && qoz m s)):=by
 have hft:=qag m s hs
 by_cases hf:fitsB m s=true
 ·have hmv:=jeg m hM s hf
  have h0:=(jn m s).1 hf
  have hz:=hM.sz
  have hr:=fun (q:Pr) hq=>(hM.pr q hq).rl
  rw [hf] at hft
  rw [hf,zat]
  unfold qoz
  generalize hL:qp m s=L at hmv
  refine zK {} 300 Tryz.func47 (fun c0 rdb=>?_)
  (repeat' ((conv=>whnf);first|refine zA ?_|refine zO ?_|refine Ob.auto ?_|refine zI ?_|refine zC 300 (hft) ?_|refine zG 300 (fun hg=>hft) ?_|(refine CallY.con (hft) (by rfl) leA ?_)|(refine CallZ.con (fun hg=>hft) qz (by rfl) ?_)|refine zC 300 (hmv) ?_|refine zG 300 (fun hg=>hmv) ?_|(refine CallY.con (hmv) (by rfl) leA ?_)|(refine CallZ.con (fun hg=>hmv) qz (by rfl) ?_)|(refine qi (fun _=>rfl) 300 (hft) qc (by (repeat' (first|exact trivial|exact Le.refl _|(refine And.intro ?_ ?_))) <;> fail) (by rfl) (by kernel_rfl) ?_)|(refine qq (fun _=>rfl) 300 (fun hg=>hft) (fun hg=>qc) (fun hg=>(by (repeat' (first|exact trivial|exact Le.refl _|exact Le.cnd hg|(refine And.intro ?_ ?_))) <;> fail)) (by rfl) (by kernel_rfl) ?_)|(refine qi (fun _=>rfl) 300 (hmv) qc (by (repeat' (first|exact trivial|exact Le.refl _|(refine And.intro ?_ ?_))) <;> fail) (by rfl) (by kernel_rfl) ?_)|(refine qq (fun _=>rfl) 300 (fun hg=>hmv) (fun hg=>qc) (fun hg=>(by (repeat' (first|exact trivial|exact Le.refl _|exact Le.cnd hg|(refine And.intro ?_ ?_))) <;> fail)) (by rfl) (by kernel_rfl) ?_)|refine zD 300 ?_|(apply zB <;> intro hb <;> (try simp [-zd] at hb) <;> try (exfalso;omega))|refine Ob.intro ?_ ?_))
  ·rw [show L.isEmpty=false from by cases L with|nil=>simp at hb|cons a b=>rfl]
   exact Le.refl _
  ·subst hb
   have hat:=h0.1.1
   have hfa:=h0.2.1
   ((conv=>whnf);refine qm (fun _=>rfl) 300 1 (fun i:Nat=>[(21,iv i),(4,.bool false)]) (fun _=>[]) (fun i=>i≤m.procs.length∧∀ j,j<i→(m.procs.getD j pr0).rest.getD (s.at_.getD j 0).toNat false=true) (fun i=>m.procs.length - i) (0) (⟨zv _,fun j hj=>absurd hj (zh j)⟩) qa qa (fun _=>rfl) (by kernel_rfl) ?_;(conv=>whnf))
   intro i hi
   have hri:i<m.procs.length→0≤s.at_.getD i 0∧s.at_.getD i 0<((m.procs.getD i pr0).rest.length:Int):=fun h=>by
    have h1:=hfa i (by omega)
    have h2:=hr _ (qk m.procs i pr0 h)
    unfold qjc at h1
    omega
   (repeat' ((conv=>whnf);first|refine zA ?_|refine zO ?_|refine Ob.auto ?_|(refine Ob.intro (by (first|exact ⟨by omega,by omega⟩|exact hri (by omega))) ?_)|refine zD 300 ?_|(apply zB <;> intro hb <;> (try simp [-zd] at hb) <;> try (exfalso;omega))|refine Ob.intro ?_ ?_))
   ·rw [show qwj m s=false from qsm (i:=i) (by omega) (by assumption)]
    exact Le.refl _
   ·((conv=>whnf);refine ⟨i+1,⟨by omega,qaf hi.2 (by assumption)⟩,⟨qa,qa⟩,⟨qa,qa⟩,?_⟩;(first|omega|(dsimp only;omega)|skip))
   ·rw [show qwj m s=true from qks fun j hj=>hi.2 j (by omega)]
    exact Le.refl _
 ·rw [Bool.not_eq_true] at hf
  rw [hf] at hft
  rw [hf]
  refine zK {} 300 Tryz.func47 (fun c0 rdb=>?_)
  (repeat' ((conv=>whnf);first|refine zA ?_|refine zO ?_|refine Ob.auto ?_|refine zC 300 (hft) ?_|refine zG 300 (fun hg=>hft) ?_|(refine CallY.con (hft) (by rfl) leA ?_)|(refine CallZ.con (fun hg=>hft) qz (by rfl) ?_)|refine zC 300 ((absurd hg (by decide):Con Tryz.prog 48 [m.av,s.av] (.slc 4 0 (fun _=>[])))) ?_|refine zG 300 (fun hg=>(absurd hg (by decide):Con Tryz.prog 48 [m.av,s.av] (.slc 4 0 (fun _=>[])))) ?_|(refine CallY.con ((absurd hg (by decide):Con Tryz.prog 48 [m.av,s.av] (.slc 4 0 (fun _=>[])))) (by rfl) leA ?_)|(refine CallZ.con (fun hg=>(absurd hg (by decide):Con Tryz.prog 48 [m.av,s.av] (.slc 4 0 (fun _=>[])))) qz (by rfl) ?_)|(refine qi (fun _=>rfl) 300 (hft) qc (by (repeat' (first|exact trivial|exact Le.refl _|(refine And.intro ?_ ?_))) <;> fail) (by rfl) (by kernel_rfl) ?_)|(refine qq (fun _=>rfl) 300 (fun hg=>hft) (fun hg=>qc) (fun hg=>(by (repeat' (first|exact trivial|exact Le.refl _|exact Le.cnd hg|(refine And.intro ?_ ?_))) <;> fail)) (by rfl) (by kernel_rfl) ?_)|(refine qi (fun _=>rfl) 300 ((absurd hg (by decide):Con Tryz.prog 48 [m.av,s.av] (.slc 4 0 (fun _=>[])))) qc (by (repeat' (first|exact trivial|exact Le.refl _|(refine And.intro ?_ ?_))) <;> fail) (by rfl) (by kernel_rfl) ?_)|(refine qq (fun _=>rfl) 300 (fun hg=>(absurd hg (by decide):Con Tryz.prog 48 [m.av,s.av] (.slc 4 0 (fun _=>[])))) (fun hg=>qc) (fun hg=>(by (repeat' (first|exact trivial|exact Le.refl _|exact Le.cnd hg|(refine And.intro ?_ ?_))) <;> fail)) (by rfl) (by kernel_rfl) ?_)|refine zD 300 ?_|(apply zB <;> intro hb <;> (try simp [-zd] at hb) <;> try (exfalso;omega))|refine Ob.intro ?_ ?_))
  exact Le.refl _
theorem jsh (m:Md) (hM:ModOk m) (s:Stt) (hs:SSz s):Con Tryz.prog 22 [m.av,s.av] (.bool (fitsB m s && badB m s)):=by
 have hft:=qag m s hs
 have hsf:=jqa m hM.ok s hs
 have hdd:=jsg m hM s hs
 by_cases hf:fitsB m s=true
 ·rw [hf] at hft hsf hdd
  rw [hf,zat]
  have e:(m.safe.isEmpty || (true && qmd m s))=qmd m s:=by
   rw [zat]
   unfold qmd
   cases m.safe with
   | nil=>rfl
   | cons a b=>rfl
  rw [e] at hsf
  rw [zat] at hdd
  unfold badB
  refine zK {} 300 Tryz.func22 (fun c0 rdb=>?_)
  (repeat' ((conv=>whnf);first|refine zA ?_|refine zO ?_|refine Ob.auto ?_|refine zC 300 (hft) ?_|refine zG 300 (fun hg=>hft) ?_|(refine CallY.con (hft) (by rfl) leA ?_)|(refine CallZ.con (fun hg=>hft) qz (by rfl) ?_)|refine zC 300 (hsf) ?_|refine zG 300 (fun hg=>hsf) ?_|(refine CallY.con (hsf) (by rfl) leA ?_)|(refine CallZ.con (fun hg=>hsf) qz (by rfl) ?_)|refine zC 300 (hdd) ?_|refine zG 300 (fun hg=>hdd) ?_|(refine CallY.con (hdd) (by rfl) leA ?_)|(refine CallZ.con (fun hg=>hdd) qz (by rfl) ?_)|(refine qi (fun _=>rfl) 300 (hft) qc (by (repeat' (first|exact trivial|exact Le.refl _|(refine And.intro ?_ ?_))) <;> fail) (by rfl) (by kernel_rfl) ?_)|(refine qq (fun _=>rfl) 300 (fun hg=>hft) (fun hg=>qc) (fun hg=>(by (repeat' (first|exact trivial|exact Le.refl _|exact Le.cnd hg|(refine And.intro ?_ ?_))) <;> fail)) (by rfl) (by kernel_rfl) ?_)|(refine qi (fun _=>rfl) 300 (hsf) qc (by (repeat' (first|exact trivial|exact Le.refl _|(refine And.intro ?_ ?_))) <;> fail) (by rfl) (by kernel_rfl) ?_)|(refine qq (fun _=>rfl) 300 (fun hg=>hsf) (fun hg=>qc) (fun hg=>(by (repeat' (first|exact trivial|exact Le.refl _|exact Le.cnd hg|(refine And.intro ?_ ?_))) <;> fail)) (by rfl) (by kernel_rfl) ?_)|(refine qi (fun _=>rfl) 300 (hdd) qc (by (repeat' (first|exact trivial|exact Le.refl _|(refine And.intro ?_ ?_))) <;> fail) (by rfl) (by kernel_rfl) ?_)|(refine qq (fun _=>rfl) 300 (fun hg=>hdd) (fun hg=>qc) (fun hg=>(by (repeat' (first|exact trivial|exact Le.refl _|exact Le.cnd hg|(refine And.intro ?_ ?_))) <;> fail)) (by rfl) (by kernel_rfl) ?_)|refine zD 300 ?_|(apply zB <;> intro hb <;> (try simp [-zd] at hb) <;> try (exfalso;omega))|refine Ob.intro ?_ ?_))
  exact Le.refl _
 ·rw [Bool.not_eq_true] at hf
  rw [hf] at hft
  rw [hf]
  refine zK {} 300 Tryz.func22 (fun c0 rdb=>?_)
  (repeat' ((conv=>whnf);first|refine zA ?_|refine zO ?_|refine Ob.auto ?_|refine zC 300 (hft) ?_|refine zG 300 (fun hg=>hft) ?_|(refine CallY.con (hft) (by rfl) leA ?_)|(refine CallZ.con (fun hg=>hft) qz (by rfl) ?_)|(refine qi (fun _=>rfl) 300 (hft) qc (by (repeat' (first|exact trivial|exact Le.refl _|(refine And.intro ?_ ?_))) <;> fail) (by rfl) (by kernel_rfl) ?_)|(refine qq (fun _=>rfl) 300 (fun hg=>hft) (fun hg=>qc) (fun hg=>(by (repeat' (first|exact trivial|exact Le.refl _|exact Le.cnd hg|(refine And.intro ?_ ?_))) <;> fail)) (by rfl) (by kernel_rfl) ?_)|refine zD 300 ?_|(apply zB <;> intro hb <;> (try simp [-zd] at hb) <;> try (exfalso;omega))|refine Ob.intro ?_ ?_))
  exact Le.refl _
def qti (r b:Nat) (m:Md) (most:Int) (L:List Fnd):SO:=.box 71 (m.cells++[iv most,.own r 0 0 L.length,.mapv b])
theorem jet (m:Md) (hM:ModOk m) (hf:fitsB m (qw m)=true) (most:Int) :
  Trip Tryz.prog 20 [m.av,iv most] [] (.ptr 2 0) [(2,qti 3 1 m (qds most) (qae m)),(1,kMap (qae m)),(3,kRow (qae m))] 4:=by
 have hk:=jes m hM (qds most) [] (by decide) ⟨qw m,-1,{},0⟩ hf
 have hms:=qpl most
 have e:addF (qds most) [] ⟨qw m,-1,{},0⟩=(qae m,true):=by
  unfold addF qgd
  rw [za (show ¬ qgk (qgc []) _=true by show ¬ false=true;decide),za (by simp only [zap];omega)]
  rfl
 rw [e] at hk
 unfold qti
 refine zL {} 300 Tryz.func20 (fun c0 rdb mpb=>?_)
 (repeat' ((conv=>whnf);first|refine zA ?_|refine zO ?_|refine Ob.auto ?_|refine zI ?_|refine zC 300 (qmg m hM.ok) ?_|refine zG 300 (fun hg=>qmg m hM.ok) ?_|(refine CallY.con (qmg m hM.ok) (by rfl) leA ?_)|(refine CallZ.con (fun hg=>qmg m hM.ok) qz (by rfl) ?_)|(refine qi (fun _=>rfl) 300 (qmg m hM.ok) qc (by (repeat' (first|exact trivial|exact Le.refl _|(refine And.intro ?_ ?_))) <;> fail) (by rfl) (by kernel_rfl) ?_)|(refine qq (fun _=>rfl) 300 (fun hg=>qmg m hM.ok) (fun hg=>qc) (fun hg=>(by (repeat' (first|exact trivial|exact Le.refl _|exact Le.cnd hg|(refine And.intro ?_ ?_))) <;> fail)) (by rfl) (by kernel_rfl) ?_)|refine zD 300 ?_|(apply zB <;> intro hb <;> (try simp [-zd] at hb) <;> try (exfalso;omega))|refine Ob.intro ?_ ?_))
 refine jcx 2 8 67 10 rfl rfl ?_
 ((conv=>whnf);refine zT 300 [2,1,3] (hk) (⟨⟨rfl,Le.refl _,Le.refl _,Le.refl _,Le.refl _,Le.refl _,Le.refl _,Le.refl _,Le.refl _,Le.refl _,Le.refl _,trivial⟩,⟨rfl,Le.refl _,trivial⟩,⟨⟨rfl,rfl,rfl⟩,rfl,rfl,fun k hk=>absurd hk (zh k)⟩,trivial⟩) ?_)
 (repeat' ((conv=>whnf);first|refine zA ?_|refine zO ?_|refine Ob.auto ?_|refine zD 300 ?_|(apply zB <;> intro hb <;> (try simp [-zd] at hb) <;> try (exfalso;omega))|refine Ob.intro ?_ ?_))
 exact ⟨Le.refl _,qa⟩
theorem qxd (m:Md) (hM:ModOk m) (s:Stt) (hf:fitsB m s=true) (b:Bool) :
  Trip Tryz.prog 21 [s.av,.ptr 0 0,.ptr 1 0] [.box 29 m.cells,.box 4 [.bool b]] (.bool (badB m s)) [(0,.box 29 m.cells),(1,.box 4 [.bool (badB m s)])] 2:=by
 have hb:=jsh m hM s (qco hM hf)
 rw [hf,zat] at hb
 refine zM {} 300 Tryz.func21 (fun c0 rdb mpb=>?_)
 (repeat' ((conv=>whnf);first|refine zA ?_|refine zO ?_|refine Ob.auto ?_|refine zC 300 (hb) ?_|refine zG 300 (fun hg=>hb) ?_|(refine CallY.con (hb) (by rfl) leA ?_)|(refine CallZ.con (fun hg=>hb) qz (by rfl) ?_)|(refine qi (fun _=>rfl) 300 (hb) qc (by (repeat' (first|exact trivial|exact Le.refl _|(refine And.intro ?_ ?_))) <;> fail) (by rfl) (by kernel_rfl) ?_)|(refine qq (fun _=>rfl) 300 (fun hg=>hb) (fun hg=>qc) (fun hg=>(by (repeat' (first|exact trivial|exact Le.refl _|exact Le.cnd hg|(refine And.intro ?_ ?_))) <;> fail)) (by rfl) (by kernel_rfl) ?_)|refine zD 300 ?_|(apply zB <;> intro hb <;> (try simp [-zd] at hb) <;> try (exfalso;omega))|refine Ob.intro ?_ ?_))
 exact ⟨Le.refl _,qa⟩
theorem jeu (m:Md) (hM:ModOk m) (most:Int) (hm:most≤20000) (L:List Fnd) (hL:LOk m most L) (at_:Nat) (ha:at_<L.length) :
  Trip Tryz.prog 23 [.ptr 0 0,iv at_,.bfn 24 0,.fn 21 [.ptr 3 0,.ptr 4 0]] [kBox m most L,kMap L,kRow L,.box 29 m.cells,.box 4 [.bool false]]
   (.bool (jo m most (badB m) at_ L).2.1)
   [(0,kBox m most (jo m most (badB m) at_ L).1),(1,kMap (jo m most (badB m) at_ L).1),(2,kRow (jo m most (badB m) at_ L).1),(3,.box 29 m.cells),(4,.box 4 [.bool (jo m most (badB m) at_ L).2.2])] 5:=by
 have hle:=hL.le
 have hmem:L.getD at_ Fnd.none∈L:=by
  rw [zd,ze ha]
  exact zaa ha
 have hfit:=hL.fit _ hmem
 have hdep:=hL.dep at_ ha
 have hml:=qxa hM (L.getD at_ Fnd.none).s
 unfold jo
 have hmv:=jeg m hM (L.getD at_ Fnd.none).s hfit
 unfold kBox kRow kMap
 refine zM {} 300 Tryz.func23 (fun c0 rdb mpb=>?_)
 (repeat' ((conv=>whnf);first|refine zA ?_|refine zO ?_|refine Ob.auto ?_|refine zI ?_|refine zD 300 ?_|(apply zB <;> intro hb <;> (try simp [-zd] at hb) <;> try (exfalso;omega))|refine Ob.intro ?_ ?_))
 (repeat' ((conv=>whnf);first|refine zA ?_|refine zO ?_|refine Ob.auto ?_|refine zI ?_|refine zC 300 (hmv) ?_|refine zG 300 (fun hg=>hmv) ?_|(refine CallY.con (hmv) (by rfl) leA ?_)|(refine CallZ.con (fun hg=>hmv) qz (by rfl) ?_)|(refine qi (fun _=>rfl) 300 (hmv) qc (by (repeat' (first|exact trivial|exact Le.refl _|(refine And.intro ?_ ?_))) <;> fail) (by rfl) (by kernel_rfl) ?_)|(refine qq (fun _=>rfl) 300 (fun hg=>hmv) (fun hg=>qc) (fun hg=>(by (repeat' (first|exact trivial|exact Le.refl _|exact Le.cnd hg|(refine And.intro ?_ ?_))) <;> fail)) (by rfl) (by kernel_rfl) ?_)|refine zD 300 ?_|(refine zQ 300 ?_)|(apply zB <;> intro hb <;> (try simp [-zd] at hb) <;> try (exfalso;omega))|refine Ob.intro ?_ ?_))
 generalize hR:qbk m most (badB m) (L.getD at_ Fnd.none) (at_:Int) (qp m (L.getD at_ Fnd.none).s) L=R
 ((conv=>whnf);refine qm (fun _=>rfl) 300 1 (fun g:Nat × List Fnd=>[(30,iv g.1)]) (fun g=>[(0,.box 71 (m.cells++[iv most,.own 2 0 0 g.2.length,.mapv 1])),(1,.box jh [.keys (qgc g.2)]),(2,.row [] 67 10 0 g.2.length (encL Fnd.cells Fnd.none g.2)),(4,.box 4 [.bool false])]) (fun g=>g.1≤(qp m (L.getD at_ Fnd.none).s).length∧LOk m most g.2∧at_<g.2.length∧qbk m most (badB m) (L.getD at_ Fnd.none) (at_:Int) ((qp m (L.getD at_ Fnd.none).s).drop g.1) g.2=R) (fun g=>(qp m (L.getD at_ Fnd.none).s).length - g.1) ((0,L)) (⟨zv _,hL,ha,hR⟩) qa qa (fun _=>rfl) (by kernel_rfl) ?_;(conv=>whnf))
 rintro ⟨i,K⟩ ⟨hi,hK,hak,hsp⟩
 simp only at hi hK hak hsp
 have hKle:=hK.le
 by_cases hil:i<(qp m (L.getD at_ Fnd.none).s).length
 ·have hv:qah m (L.getD at_ Fnd.none).s ((qp m (L.getD at_ Fnd.none).s).getD i {})=true:=mem_movesF.1 (qk _ i {} hil)
  have hd1:inR .i64 ((L.getD at_ Fnd.none).depth+1):=⟨by show (-9223372036854775808:Int)≤_;omega,by show _≤(9223372036854775807:Int);omega⟩
  have hdo:=jrz m hM (L.getD at_ Fnd.none).s ((qp m (L.getD at_ Fnd.none).s).getD i {}) hfit hv
  have hs':=qta hM hfit hv
  rw [qgz _ i {} hil,qbk] at hsp
  have hadd:=jes m hM most K (by omega) ⟨jg m (L.getD at_ Fnd.none).s ((qp m (L.getD at_ Fnd.none).s).getD i {}),at_,(qp m (L.getD at_ Fnd.none).s).getD i {},(L.getD at_ Fnd.none).depth+1⟩ hs'
  (repeat' ((conv=>whnf);first|refine zA ?_|refine zO ?_|refine Ob.auto ?_|refine zI ?_|refine zD 300 ?_|(apply zB <;> intro hb <;> (try simp [-zd] at hb) <;> try (exfalso;omega))|refine Ob.intro ?_ ?_))
  (repeat' ((conv=>whnf);first|refine zO ?_|refine Ob.auto ?_|(refine Ob.intro (by (first|exact ⟨by omega,by omega⟩|exact hd1)) ?_)|refine zC 300 (hdo) ?_|refine zG 300 (fun hg=>hdo) ?_|(refine CallY.con (hdo) (by rfl) leA ?_)|(refine CallZ.con (fun hg=>hdo) qz (by rfl) ?_)|(refine qi (fun _=>rfl) 300 (hdo) qc (by (repeat' (first|exact trivial|exact Le.refl _|(refine And.intro ?_ ?_))) <;> fail) (by rfl) (by kernel_rfl) ?_)|(refine qq (fun _=>rfl) 300 (fun hg=>hdo) (fun hg=>qc) (fun hg=>(by (repeat' (first|exact trivial|exact Le.refl _|exact Le.cnd hg|(refine And.intro ?_ ?_))) <;> fail)) (by rfl) (by kernel_rfl) ?_)|refine zD 300 ?_|(refine qbc (fun _=>rfl) (by kernel_rfl) 300 ?_)|(apply zB <;> intro hb <;> (try simp [-zd] at hb) <;> try (exfalso;omega))|refine Ob.intro ?_ ?_))
  ((conv=>whnf);refine AltG.far 14 [0,5,6] (by kernel_rfl) farA (EndG.go ?_))
  (repeat' ((conv=>whnf);first|refine zA ?_|refine zO ?_|refine Ob.auto ?_|(refine Ob.intro (by (first|exact ⟨by omega,by omega⟩|exact hd1)) ?_)|refine zD 300 ?_|(apply zB <;> intro hb <;> (try simp [-zd] at hb) <;> try (exfalso;omega))|refine Ob.intro ?_ ?_))
  ((conv=>whnf);refine zT 300 [0,1,2] (hadd) qa ?_)
  generalize hA:addF most K ⟨jg m (L.getD at_ Fnd.none).s ((qp m (L.getD at_ Fnd.none).s).getD i {}),at_,(qp m (L.getD at_ Fnd.none).s).getD i {},(L.getD at_ Fnd.none).depth+1⟩=A at hsp
  have hKA:LOk m most A.1:=by rw [← hA];exact hK.add hs' (by simp only;omega) (by simp only;omega)
  have hAl:K.length≤A.1.length:=by rw [← hA];exact jdz _ _ _
  (repeat' ((conv=>whnf);first|refine zA ?_|refine zO ?_|refine Ob.auto ?_|(refine Ob.intro (by (first|exact ⟨by omega,by omega⟩|exact hd1)) ?_)|refine zD 300 ?_|(apply zB <;> intro hb <;> (try simp [-zd] at hb) <;> try (exfalso;omega))|refine Ob.intro ?_ ?_))
  ·have hA0:A.2=false:=by assumption
   rw [zb hA0] at hsp
   have hA1:A.1=K:=by
    rw [← hA] at hA0 ⊢
    rcases qml most K ⟨jg m (L.getD at_ Fnd.none).s ((qp m (L.getD at_ Fnd.none).s).getD i {}),at_,(qp m (L.getD at_ Fnd.none).s).getD i {},(L.getD at_ Fnd.none).depth+1⟩ with e|⟨_,e1,e2⟩
    ·exact e
    ·unfold addF at hA0
     rw [za (by rw [e1];decide),za e2] at hA0
     cases hA0
   subst hsp
   obtain ⟨A1,A2⟩:=A
   simp only at hA1
   subst hA1
   exact ⟨Le.refl _,qa⟩
  ·have hA0:A.2=true:=by assumption
   have hlt:K.length<A.1.length:=by assumption
   have hg:decide ((K.length:Int)<(A.1.length:Int))=true:=xn (by omega)
   refine OpG.fcall rfl rfl hg hg rfl ?_
   have hbt:=qxd m hM (jg m (L.getD at_ Fnd.none).s ((qp m (L.getD at_ Fnd.none).s).getD i {})) hs' false
   generalize badB m (jg m (L.getD at_ Fnd.none).s ((qp m (L.getD at_ Fnd.none).s).getD i {}))=bb at hbt hsp
   ((conv=>whnf);refine zT 300 [3,4] (hbt) qa ?_)
   rw [za (by rw [hA0];decide)] at hsp
   (repeat' ((conv=>whnf);first|refine zA ?_|refine zO ?_|refine Ob.auto ?_|(refine Ob.intro (by (first|exact ⟨by omega,by omega⟩|exact hd1)) ?_)|refine zD 300 ?_|(apply zB <;> intro hb <;> (try simp [-zd] at hb) <;> try (exfalso;omega))|refine Ob.intro ?_ ?_))
   ·have hb1:bb=true:=hb.2
    subst hb1
    rw [zb ⟨hlt,rfl⟩] at hsp
    subst hsp
    exact ⟨Le.refl _,qa⟩
   ·have hb1:bb=false:=hb hlt
    subst hb1
    rw [za (fun h=>by cases h.2)] at hsp
    ((conv=>whnf);refine ⟨(i+1,A.1),⟨hil,hKA,zaj hak hAl,hsp⟩,⟨qa,qa⟩,⟨qa,qa⟩,?_⟩;(first|omega|(dsimp only;omega)|skip))
  ·have hA0:A.2=true:=by assumption
   have hle1:A.1.length≤K.length:=by assumption
   rw [za (by rw [hA0];decide),za (fun h=>by omega)] at hsp
   ((conv=>whnf);refine ⟨(i+1,A.1),⟨hil,hKA,zaj hak hAl,hsp⟩,⟨qa,qa⟩,⟨qa,qa⟩,?_⟩;(first|omega|(dsimp only;omega)|skip))
 ·obtain rfl:i=(qp m (L.getD at_ Fnd.none).s).length:=by omega
  rw [List.drop_length,qbk] at hsp
  subst hsp
  (repeat' ((conv=>whnf);first|refine zA ?_|refine zO ?_|refine Ob.auto ?_|refine zI ?_|refine zD 300 ?_|(apply zB <;> intro hb <;> (try simp [-zd] at hb) <;> try (exfalso;omega))|refine Ob.intro ?_ ?_))
  exact ⟨Le.refl _,qa⟩
end Go.Proofs.YtikahnkkfkoglaaGreatDoor
end
section
namespace Go.Proofs.YtikahnkkfkoglaaGreatDoor
open Go Go.Sx Go.St

end Go.Proofs.YtikahnkkfkoglaaGreatDoor
end
