/- Some texts of the library, one behind the other. -/
import Derived.Test.YtikahnkkfkoglaaGreatDoorY115
import Derived.Test.YtikahnkkfkoglaaGreatDoorY12
set_option linter.unusedSimpArgs false
set_option linter.unusedVariables false
section
namespace Go.Proofs.YtikahnkkfkoglaaGreatDoor
open List renaming getD_eq_getElem?_getD → zd
open Go Go.Sx Go.RowKit Go.St
set_option maxRecDepth 100000
set_option maxHeartbeats 4000000
def js (m:Md) (s:Stt) (i:Nat):List Mv:=(List.range i).flatMap (fun (p:Nat)=>if s.holder≠-1∧s.holder≠p then [] else qin m s p)
def qdx (m:Md) (s:Stt) (p j:Nat):List Mv:=((List.range j).filter fun i=>canB m s p ((qt m p).getD i ed0)).map fun (i:Nat)=>⟨0,p,i,0⟩
def qcr (m:Md) (s:Stt) (c:Nat):List Mv:=(List.range c).flatMap (qfn m s)
theorem qvq (m:Md) (s:Stt) (i:Nat):js m s (i+1)=js m s i++(if s.holder≠-1∧s.holder≠(i:Int) then [] else qin m s i):=by
 unfold js
 rw [zbl,List.flatMap_append];simp
theorem jcr (m:Md) (s:Stt) (p j:Nat):qdx m s p (j+1)=qdx m s p j++(if canB m s p ((qt m p).getD j ed0)=true then [⟨0,p,j,0⟩] else []):=by
 unfold qdx
 rw [zbl,List.filter_append,List.map_append]
 congr 1
 by_cases h:canB m s p ((qt m p).getD j ed0)=true
 ·rw [zb h,List.filter_cons,zb h];rfl
 ·rw [za h,List.filter_cons,za h];rfl
theorem qoc (m:Md) (s:Stt) (c:Nat):qcr m s (c+1)=qcr m s c++qfn m s c:=by
 unfold qcr
 rw [zbl,List.flatMap_append];simp
theorem jpg (m:Md) (s:Stt) (p:Nat):qdx m s p (qt m p).length=qin m s p:=rfl
theorem jph (m:Md) (s:Stt) (c:Nat):(qfn m s c).length≤2:=by
 unfold qfn
 rw [zg]
 split <;> split <;> simp
theorem qvr (m:Md) (s:Stt):∀ c,(qcr m s c).length≤2 * c
 | 0=>by simp [qcr]
 | c+1=>by rw [qoc,zg];have:=qvr m s c;have:=jph m s c;omega
theorem jcs (m:Md) (s:Stt) (p j:Nat):(qdx m s p j).length≤j:=by
 unfold qdx
 rw [xh]
 exact zv (zaq _ _) (by simp)
theorem qvs (m:Md) (hM:ModOk m) (s:Stt):∀ i,i≤m.procs.length→(js m s i).length≤40000 * i
 | 0,_=>by simp [js]
 | i+1,h=>by
  have h1:=qvs m hM s i (by omega)
  have h2:=(hM.psz _ (qm m.procs i pr0 (by omega))).1
  have h3:(qin m s i).length≤(qt m i).length:=jcs m s i _
  have h4:(qt m i).length≤40000:=h2
  rw [qvq,zg]
  split
  ·simp;omega
  ·omega
theorem qlq {α:Type} (enc:α→List AV) (d:α) {l l':List α} (h:l=l') {ids:List Nat} {e:TypeId} {sz ep:Nat}:SoLe (.row ids e sz ep l.length (encL enc d l)) (.row ids e sz ep l'.length (encL enc d l')):=by
 subst h;exact SoLe.refl _
theorem qvt {α:Type} (enc:α→List AV) (d:α) {l l':List α} {x:α} (h:l++[x]=l') {ids:List Nat} {e:TypeId} {sz ep:Nat} {g:Nat→List AV} (hg:g 0=enc x):SoLe (.row ids e sz ep (l.length+1) (appF l.length (encL enc d l) 1 g)) (.row ids e sz ep l'.length (encL enc d l')):=by
 subst h;exact ⟨⟨rfl,rfl,rfl⟩,rfl,by rw [zg];rfl,qnf hg⟩
theorem jpi {α:Type} (enc:α→List AV) (d:α) {l l':List α} {x y:α} (h:l++[x,y]=l') {ids:List Nat} {e:TypeId} {sz ep:Nat} {g g':Nat→List AV} (hg:g 0=enc x) (hg':g' 0=enc y):SoLe (.row ids e sz ep (l.length+1+1) (appF (l.length+1) (appF l.length (encL enc d l) 1 g) 1 g')) (.row ids e sz ep l'.length (encL enc d l')):=by
 have h2:l++[x]++[y]=l':=by rw [← h];simp
 subst h2
 refine ⟨⟨rfl,rfl,rfl⟩,rfl,by rw [zg,zg];rfl,fun j hj=>?_⟩
 have hlen:(l++[x]).length=l.length+1:=by rw [zg];rfl
 by_cases hl:j<l.length+1
 ·have h1:=qnf (d:=d) (L:=l) hg j hl
  have e1:appF (l.length+1) (appF l.length (encL enc d l) 1 g) 1 g' j=appF l.length (encL enc d l) 1 g j:=zb hl
  have e2:encL enc d (l++[x]++[y]) j=encL enc d (l++[x]) j:=by unfold encL;rw [qjr,zb (by omega)]
  rw [e1,e2];exact h1
 ·obtain rfl:j=l.length+1:=by omega
  have e1:appF (l.length+1) (appF l.length (encL enc d l) 1 g) 1 g' (l.length+1)=g' 0:=by unfold appF;rw [za (by omega),zb (by omega),zar]
  have e2:encL enc d (l++[x]++[y]) (l.length+1)=enc y:=by unfold encL;rw [qjr,za (by omega),zb hlen.symm]
  rw [e1,e2,hg'];exact LeL.refl _
theorem jpj {α:Type} {l l':List α} {x y:α} (h:l++[x,y]=l') (r:Nat):Le (.own r 0 0 (l.length+1+1)) (.own r 0 0 l'.length):=by
 subst h;exact Le.of_eq (by rw [zg];rfl)
theorem qvu {α:Type} {l l':List α} {x:α} (h:l++[x]=l') (r:Nat):Le (.own r 0 0 (l.length+1)) (.own r 0 0 l'.length):=by
 subst h;exact Le.of_eq (by rw [zg];rfl)
theorem qry {α:Type} {l l':List α} (h:l=l') (r:Nat):Le (.own r 0 0 l.length) (.own r 0 0 l'.length):=by
 subst h;exact Le.refl _
theorem qvv (m:Md) (hM:ModOk m) (s:Stt) (hf:fitsB m s=true):Con Tryz.prog 48 [m.av,s.av] (qrn (jb m s)):=by
 have hs:=qex hM hf
 have hft:=qab m s hs
 rw [hf] at hft
 have h0:=((qao m s).1 hf).1
 have hz:=hM.sz
 have hpl:=qvs m hM s
 have hcl:=h0.2.2.1
 have hpz:=hM.psz
 refine zK {owns:=[(5,(48,4))]} 300 Tryz.func48 (fun c0 rdb=>?_)
 (repeat' ((conv=>whnf);first|refine zA ?_|refine zO ?_|refine Ob.auto ?_|refine zI ?_|refine zC 300 (hft) ?_|refine zG 300 (fun hg=>hft) ?_|(refine CallY.con (hft) (by rfl) leA ?_)|(refine CallZ.con (fun hg=>hft) jn (by rfl) ?_)|(refine ql (fun _=>rfl) 300 (hft) qc (by (repeat' (first|exact trivial|exact Le.refl _|(refine And.intro ?_ ?_))) <;> fail) (by rfl) (by kernel_rfl) ?_)|(refine qw (fun _=>rfl) 300 (fun hg=>hft) (fun hg=>qc) (fun hg=>(by (repeat' (first|exact trivial|exact Le.refl _|exact Le.cnd hg|(refine And.intro ?_ ?_))) <;> fail)) (by rfl) (by kernel_rfl) ?_)|refine zD 300 ?_|(apply zB <;> intro hb <;> (try simp [-zd] at hb) <;> try (exfalso;omega))|refine Ob.intro ?_ ?_))
 ((conv=>whnf);refine qo (fun _=>rfl) 300 1 (fun i:Nat=>[(18,iv i),(5,.own 2 0 0 (js m s i).length)]) (fun i=>[(2,.row [] 48 4 0 (js m s i).length (encL Mv.cells {} (js m s i)))]) (fun i=>i≤m.procs.length) (fun i=>m.procs.length - i) (0) (xb _) qa ⟨qda (fun k hk=>absurd hk (zj k)),trivial⟩ (fun _=>rfl) (by kernel_rfl) ?_;(conv=>whnf))
 intro i hi
 have hpi:=hpl i hi
 (repeat' ((conv=>whnf);first|refine zA ?_|refine zO ?_|refine Ob.auto ?_|refine zI ?_|refine zD 300 ?_|(apply zB <;> intro hb <;> (try simp [-zd] at hb) <;> try (exfalso;omega))|refine Ob.intro ?_ ?_))
 ·have hp1:js m s (i+1)=js m s i:=by rw [qvq,zb hb,zan]
  ((conv=>whnf);refine ⟨i+1,by omega,⟨⟨Le.refl _,Le.of_eq (congrArg (fun l=>AV.own 2 0 0 (List.length l)) hp1.symm),trivial⟩,⟨qlq Mv.cells {} hp1.symm,trivial⟩⟩,⟨qa,qa⟩,?_⟩;(first|omega|(dsimp only;omega)|skip))
 ·have hp1:js m s (i+1)=js m s i++qin m s i:=by rw [qvq,za (fun h=>h.2 (hb h.1))]
  have hil:i<m.procs.length:=by assumption
  have hpe:=(hpz _ (qm m.procs i pr0 hil)).1
  have hel:(qt m i).length≤40000:=hpe
  have he0:js m s i++qdx m s i 0=js m s i:=zan _
  ((conv=>whnf);refine jaf (fun _=>rfl) 300 2 [2,3,4,6,18,33,34,16,17] [0,1,3] (fun j:Nat=>[(35,iv j),(5,.own 2 0 0 (js m s i++qdx m s i j).length)]) (fun j=>[(2,.row [] 48 4 0 (js m s i++qdx m s i j).length (encL Mv.cells {} (js m s i++qdx m s i j)))]) (fun j=>j≤(qt m i).length) (fun j=>(qt m i).length - j) (0) (xb _) ⟨Le.refl _,Le.of_eq (congrArg (fun l=>AV.own 2 0 0 (List.length l)) he0.symm),trivial⟩ ⟨qlq Mv.cells {} he0.symm,trivial⟩ (fun _=>rfl) (by kernel_rfl) ?_;(conv=>whnf))
  intro j hj
  have hen:=jcs m s i j
  have hsum:(js m s i++qdx m s i j).length≤200000:=by rw [zg];omega
  generalize hL:js m s i++qdx m s i j=L at hsum ⊢
  (repeat' ((conv=>whnf);first|refine zA ?_|refine zO ?_|refine Ob.auto ?_|refine zI ?_|refine zC 300 (qiq m hM.ok s hf hs i hil ((qt m i).getD j ed0) (edOk hM hil (by exact hb))) ?_|refine zG 300 (fun hg=>qiq m hM.ok s hf hs i hil ((qt m i).getD j ed0) (edOk hM hil (by exact hb))) ?_|(refine CallY.con (qiq m hM.ok s hf hs i hil ((qt m i).getD j ed0) (edOk hM hil (by exact hb))) (by rfl) leA ?_)|(refine CallZ.con (fun hg=>qiq m hM.ok s hf hs i hil ((qt m i).getD j ed0) (edOk hM hil (by exact hb))) jn (by rfl) ?_)|(refine ql (fun _=>rfl) 300 (qiq m hM.ok s hf hs i hil ((qt m i).getD j ed0) (edOk hM hil (by exact hb))) qc (by (repeat' (first|exact trivial|exact Le.refl _|(refine And.intro ?_ ?_))) <;> fail) (by rfl) (by kernel_rfl) ?_)|(refine qw (fun _=>rfl) 300 (fun hg=>qiq m hM.ok s hf hs i hil ((qt m i).getD j ed0) (edOk hM hil (by exact hb))) (fun hg=>qc) (fun hg=>(by (repeat' (first|exact trivial|exact Le.refl _|exact Le.cnd hg|(refine And.intro ?_ ?_))) <;> fail)) (by rfl) (by kernel_rfl) ?_)|refine zD 300 ?_|(apply zB <;> intro hb <;> (try simp [-zd] at hb) <;> try (exfalso;omega))|refine Ob.intro ?_ ?_))
  ·have hjl:j<(qt m i).length:=by assumption
   have hE:L++[⟨0,i,j,0⟩]=js m s i++qdx m s i (j+1):=by rw [jcr,zb hb,← zz,hL]
   ((conv=>whnf);refine ⟨j+1,hjl,⟨⟨Le.refl _,qvu hE 2,trivial⟩,⟨qvt Mv.cells {} hE rfl,trivial⟩⟩,⟨qa,qa⟩,?_⟩;(first|omega|(dsimp only;omega)|skip))
  ·have hjl:j<(qt m i).length:=by assumption
   have hE:L=js m s i++qdx m s i (j+1):=by rw [jcr,za (by rw [hb];decide),zan,hL]
   ((conv=>whnf);refine ⟨j+1,hjl,⟨⟨Le.refl _,qry hE 2,trivial⟩,⟨qlq Mv.cells {} hE,trivial⟩⟩,⟨qa,qa⟩,?_⟩;(first|omega|(dsimp only;omega)|skip))
  ·have hjl:(qt m i).length≤j:=by assumption
   obtain rfl:j=(qt m i).length:=by omega
   rw [jpg,← hp1] at hL
   ((conv=>whnf);refine ⟨i+1,hil,⟨⟨Le.refl _,qry hL.symm 2,trivial⟩,⟨qlq Mv.cells {} hL.symm,trivial⟩⟩,⟨qa,qa⟩,?_⟩;(first|omega|(dsimp only;omega)|skip))
 ·have hmv:jb m s=js m s i:=by
   obtain rfl:i=m.procs.length:=by omega
   unfold jb
   rw [za (by assumption),zan];rfl
  rw [hmv]
  exact Le.refl _
 ·obtain rfl:i=m.procs.length:=by omega
  have hmv:jb m s=js m s m.procs.length++qcr m s m.chans.length:=by
   unfold jb
   rw [zb (by assumption)];rfl
  have he0:js m s m.procs.length++qcr m s 0=js m s m.procs.length:=zan _
  ((conv=>whnf);refine qo (fun _=>rfl) 300 2 (fun c:Nat=>[(60,iv c),(5,.own 2 0 0 (js m s m.procs.length++qcr m s c).length)]) (fun c=>[(2,.row [] 48 4 0 (js m s m.procs.length++qcr m s c).length (encL Mv.cells {} (js m s m.procs.length++qcr m s c)))]) (fun c=>c≤m.chans.length) (fun c=>m.chans.length - c) (0) (xb _) ⟨Le.refl _,qry he0.symm 2,trivial⟩ ⟨qlq Mv.cells {} he0.symm,trivial⟩ (fun _=>rfl) (by kernel_rfl) ?_;(conv=>whnf))
  intro c hc
  have hcn:=qvr m s c
  have hsum:(js m s m.procs.length++qcr m s c).length≤200000:=by rw [zg];omega
  generalize hL:js m s m.procs.length++qcr m s c=L at hsum ⊢
  (repeat' ((conv=>whnf);first|refine zA ?_|refine zO ?_|refine Ob.auto ?_|refine zI ?_|refine zC 300 (qkb m hM.ok s hcl c (by omega)) ?_|refine zG 300 (fun hg=>qkb m hM.ok s hcl c (by omega)) ?_|(refine CallY.con (qkb m hM.ok s hcl c (by omega)) (by rfl) leA ?_)|(refine CallZ.con (fun hg=>qkb m hM.ok s hcl c (by omega)) jn (by rfl) ?_)|refine zC 300 (qkc m hM.ok s hcl c (by omega)) ?_|refine zG 300 (fun hg=>qkc m hM.ok s hcl c (by omega)) ?_|(refine CallY.con (qkc m hM.ok s hcl c (by omega)) (by rfl) leA ?_)|(refine CallZ.con (fun hg=>qkc m hM.ok s hcl c (by omega)) jn (by rfl) ?_)|(refine ql (fun _=>rfl) 300 (qkb m hM.ok s hcl c (by omega)) qc (by (repeat' (first|exact trivial|exact Le.refl _|(refine And.intro ?_ ?_))) <;> fail) (by rfl) (by kernel_rfl) ?_)|(refine qw (fun _=>rfl) 300 (fun hg=>qkb m hM.ok s hcl c (by omega)) (fun hg=>qc) (fun hg=>(by (repeat' (first|exact trivial|exact Le.refl _|exact Le.cnd hg|(refine And.intro ?_ ?_))) <;> fail)) (by rfl) (by kernel_rfl) ?_)|(refine ql (fun _=>rfl) 300 (qkc m hM.ok s hcl c (by omega)) qc (by (repeat' (first|exact trivial|exact Le.refl _|(refine And.intro ?_ ?_))) <;> fail) (by rfl) (by kernel_rfl) ?_)|(refine qw (fun _=>rfl) 300 (fun hg=>qkc m hM.ok s hcl c (by omega)) (fun hg=>qc) (fun hg=>(by (repeat' (first|exact trivial|exact Le.refl _|exact Le.cnd hg|(refine And.intro ?_ ?_))) <;> fail)) (by rfl) (by kernel_rfl) ?_)|refine zD 300 ?_|(apply zB <;> intro hb <;> (try simp [-zd] at hb) <;> try (exfalso;omega))|refine Ob.intro ?_ ?_))
  ·have hE:L++[⟨1,0,0,c⟩,⟨2,0,0,c⟩]=js m s m.procs.length++qcr m s (c+1):=by rw [qoc,← zz,hL];simp [qfn, *]
   ((conv=>whnf);refine ⟨c+1,by omega,⟨⟨Le.refl _,jpj hE 2,trivial⟩,⟨jpi Mv.cells {} hE rfl rfl,trivial⟩⟩,⟨qa,qa⟩,?_⟩;(first|omega|(dsimp only;omega)|skip))
  ·have hE:L++[⟨1,0,0,c⟩]=js m s m.procs.length++qcr m s (c+1):=by rw [qoc,← zz,hL];simp [qfn, *]
   ((conv=>whnf);refine ⟨c+1,by omega,⟨⟨Le.refl _,qvu hE 2,trivial⟩,⟨qvt Mv.cells {} hE rfl,trivial⟩⟩,⟨qa,qa⟩,?_⟩;(first|omega|(dsimp only;omega)|skip))
  ·have hE:L++[⟨2,0,0,c⟩]=js m s m.procs.length++qcr m s (c+1):=by rw [qoc,← zz,hL];simp [qfn, *]
   ((conv=>whnf);refine ⟨c+1,by omega,⟨⟨Le.refl _,qvu hE 2,trivial⟩,⟨qvt Mv.cells {} hE rfl,trivial⟩⟩,⟨qa,qa⟩,?_⟩;(first|omega|(dsimp only;omega)|skip))
  ·have hE:L=js m s m.procs.length++qcr m s (c+1):=by rw [qoc,← zz,hL];simp [qfn, *]
   ((conv=>whnf);refine ⟨c+1,by omega,⟨⟨Le.refl _,qry hE 2,trivial⟩,⟨qlq Mv.cells {} hE,trivial⟩⟩,⟨qa,qa⟩,?_⟩;(first|omega|(dsimp only;omega)|skip))
  ·obtain rfl:c=m.chans.length:=by omega
   rw [hmv,hL]
   exact Le.refl _
theorem jpk (m:Md) (hM:ModOk m) (s:Stt) (hs:SSz s):Con Tryz.prog 47 [m.av,s.av] (.bool (fitsB m s && quw m s)):=by
 have hft:=qab m s hs
 by_cases hf:fitsB m s=true
 ·have hmv:=qvv m hM s hf
  have h0:=(qao m s).1 hf
  have hz:=hM.sz
  have hr:=fun (q:Pr) hq=>(hM.pr q hq).rl
  rw [hf] at hft
  rw [hf,zas]
  unfold quw
  generalize hL:jb m s=L at hmv
  refine zK {} 300 Tryz.func47 (fun c0 rdb=>?_)
  (repeat' ((conv=>whnf);first|refine zA ?_|refine zO ?_|refine Ob.auto ?_|refine zI ?_|refine zC 300 (hft) ?_|refine zG 300 (fun hg=>hft) ?_|(refine CallY.con (hft) (by rfl) leA ?_)|(refine CallZ.con (fun hg=>hft) jn (by rfl) ?_)|refine zC 300 (hmv) ?_|refine zG 300 (fun hg=>hmv) ?_|(refine CallY.con (hmv) (by rfl) leA ?_)|(refine CallZ.con (fun hg=>hmv) jn (by rfl) ?_)|(refine ql (fun _=>rfl) 300 (hft) qc (by (repeat' (first|exact trivial|exact Le.refl _|(refine And.intro ?_ ?_))) <;> fail) (by rfl) (by kernel_rfl) ?_)|(refine qw (fun _=>rfl) 300 (fun hg=>hft) (fun hg=>qc) (fun hg=>(by (repeat' (first|exact trivial|exact Le.refl _|exact Le.cnd hg|(refine And.intro ?_ ?_))) <;> fail)) (by rfl) (by kernel_rfl) ?_)|(refine ql (fun _=>rfl) 300 (hmv) qc (by (repeat' (first|exact trivial|exact Le.refl _|(refine And.intro ?_ ?_))) <;> fail) (by rfl) (by kernel_rfl) ?_)|(refine qw (fun _=>rfl) 300 (fun hg=>hmv) (fun hg=>qc) (fun hg=>(by (repeat' (first|exact trivial|exact Le.refl _|exact Le.cnd hg|(refine And.intro ?_ ?_))) <;> fail)) (by rfl) (by kernel_rfl) ?_)|refine zD 300 ?_|(apply zB <;> intro hb <;> (try simp [-zd] at hb) <;> try (exfalso;omega))|refine Ob.intro ?_ ?_))
  ·rw [show L.isEmpty=false from by cases L with|nil=>simp at hb|cons a b=>rfl]
   exact Le.refl _
  ·subst hb
   have hat:=h0.1.1
   have hfa:=h0.2.1
   ((conv=>whnf);refine qo (fun _=>rfl) 300 1 (fun i:Nat=>[(21,iv i),(4,.bool false)]) (fun _=>[]) (fun i=>i≤m.procs.length∧∀ j,j<i→(m.procs.getD j pr0).rest.getD (s.at_.getD j 0).toNat false=true) (fun i=>m.procs.length - i) (0) (⟨xb _,fun j hj=>absurd hj (zj j)⟩) qa qa (fun _=>rfl) (by kernel_rfl) ?_;(conv=>whnf))
   intro i hi
   have hri:i<m.procs.length→0≤s.at_.getD i 0∧s.at_.getD i 0<((m.procs.getD i pr0).rest.length:Int):=fun h=>by
    have h1:=hfa i (by omega)
    have h2:=hr _ (qm m.procs i pr0 h)
    unfold qjv at h1
    omega
   (repeat' ((conv=>whnf);first|refine zA ?_|refine zO ?_|refine Ob.auto ?_|(refine Ob.intro (by (first|exact ⟨by omega,by omega⟩|exact hri (by omega))) ?_)|refine zD 300 ?_|(apply zB <;> intro hb <;> (try simp [-zd] at hb) <;> try (exfalso;omega))|refine Ob.intro ?_ ?_))
   ·rw [show quv m s=false from qrg (i:=i) (by omega) (by assumption)]
    exact Le.refl _
   ·((conv=>whnf);refine ⟨i+1,⟨by omega,qbe hi.2 (by assumption)⟩,⟨qa,qa⟩,⟨qa,qa⟩,?_⟩;(first|omega|(dsimp only;omega)|skip))
   ·rw [show quv m s=true from qju fun j hj=>hi.2 j (by omega)]
    exact Le.refl _
 ·rw [Bool.not_eq_true] at hf
  rw [hf] at hft
  rw [hf]
  refine zK {} 300 Tryz.func47 (fun c0 rdb=>?_)
  (repeat' ((conv=>whnf);first|refine zA ?_|refine zO ?_|refine Ob.auto ?_|refine zC 300 (hft) ?_|refine zG 300 (fun hg=>hft) ?_|(refine CallY.con (hft) (by rfl) leA ?_)|(refine CallZ.con (fun hg=>hft) jn (by rfl) ?_)|refine zC 300 ((absurd hg (by decide):Con Tryz.prog 48 [m.av,s.av] (.slc 4 0 (fun _=>[])))) ?_|refine zG 300 (fun hg=>(absurd hg (by decide):Con Tryz.prog 48 [m.av,s.av] (.slc 4 0 (fun _=>[])))) ?_|(refine CallY.con ((absurd hg (by decide):Con Tryz.prog 48 [m.av,s.av] (.slc 4 0 (fun _=>[])))) (by rfl) leA ?_)|(refine CallZ.con (fun hg=>(absurd hg (by decide):Con Tryz.prog 48 [m.av,s.av] (.slc 4 0 (fun _=>[])))) jn (by rfl) ?_)|(refine ql (fun _=>rfl) 300 (hft) qc (by (repeat' (first|exact trivial|exact Le.refl _|(refine And.intro ?_ ?_))) <;> fail) (by rfl) (by kernel_rfl) ?_)|(refine qw (fun _=>rfl) 300 (fun hg=>hft) (fun hg=>qc) (fun hg=>(by (repeat' (first|exact trivial|exact Le.refl _|exact Le.cnd hg|(refine And.intro ?_ ?_))) <;> fail)) (by rfl) (by kernel_rfl) ?_)|(refine ql (fun _=>rfl) 300 ((absurd hg (by decide):Con Tryz.prog 48 [m.av,s.av] (.slc 4 0 (fun _=>[])))) qc (by (repeat' (first|exact trivial|exact Le.refl _|(refine And.intro ?_ ?_))) <;> fail) (by rfl) (by kernel_rfl) ?_)|(refine qw (fun _=>rfl) 300 (fun hg=>(absurd hg (by decide):Con Tryz.prog 48 [m.av,s.av] (.slc 4 0 (fun _=>[])))) (fun hg=>qc) (fun hg=>(by (repeat' (first|exact trivial|exact Le.refl _|exact Le.cnd hg|(refine And.intro ?_ ?_))) <;> fail)) (by rfl) (by kernel_rfl) ?_)|refine zD 300 ?_|(apply zB <;> intro hb <;> (try simp [-zd] at hb) <;> try (exfalso;omega))|refine Ob.intro ?_ ?_))
  exact Le.refl _
theorem jpl (m:Md) (hM:ModOk m) (s:Stt) (hs:SSz s):Con Tryz.prog 22 [m.av,s.av] (.bool (fitsB m s && badB m s)):=by
 have hft:=qab m s hs
 have hsf:=jnw m hM.ok s hs
 have hdd:=jpk m hM s hs
 by_cases hf:fitsB m s=true
 ·rw [hf] at hft hsf hdd
  rw [hf,zas]
  have e:(m.safe.isEmpty || (true && qnl m s))=qnl m s:=by
   rw [zas]
   unfold qnl
   cases m.safe with
   | nil=>rfl
   | cons a b=>rfl
  rw [e] at hsf
  rw [zas] at hdd
  unfold badB
  refine zK {} 300 Tryz.func22 (fun c0 rdb=>?_)
  (repeat' ((conv=>whnf);first|refine zA ?_|refine zO ?_|refine Ob.auto ?_|refine zC 300 (hft) ?_|refine zG 300 (fun hg=>hft) ?_|(refine CallY.con (hft) (by rfl) leA ?_)|(refine CallZ.con (fun hg=>hft) jn (by rfl) ?_)|refine zC 300 (hsf) ?_|refine zG 300 (fun hg=>hsf) ?_|(refine CallY.con (hsf) (by rfl) leA ?_)|(refine CallZ.con (fun hg=>hsf) jn (by rfl) ?_)|refine zC 300 (hdd) ?_|refine zG 300 (fun hg=>hdd) ?_|(refine CallY.con (hdd) (by rfl) leA ?_)|(refine CallZ.con (fun hg=>hdd) jn (by rfl) ?_)|(refine ql (fun _=>rfl) 300 (hft) qc (by (repeat' (first|exact trivial|exact Le.refl _|(refine And.intro ?_ ?_))) <;> fail) (by rfl) (by kernel_rfl) ?_)|(refine qw (fun _=>rfl) 300 (fun hg=>hft) (fun hg=>qc) (fun hg=>(by (repeat' (first|exact trivial|exact Le.refl _|exact Le.cnd hg|(refine And.intro ?_ ?_))) <;> fail)) (by rfl) (by kernel_rfl) ?_)|(refine ql (fun _=>rfl) 300 (hsf) qc (by (repeat' (first|exact trivial|exact Le.refl _|(refine And.intro ?_ ?_))) <;> fail) (by rfl) (by kernel_rfl) ?_)|(refine qw (fun _=>rfl) 300 (fun hg=>hsf) (fun hg=>qc) (fun hg=>(by (repeat' (first|exact trivial|exact Le.refl _|exact Le.cnd hg|(refine And.intro ?_ ?_))) <;> fail)) (by rfl) (by kernel_rfl) ?_)|(refine ql (fun _=>rfl) 300 (hdd) qc (by (repeat' (first|exact trivial|exact Le.refl _|(refine And.intro ?_ ?_))) <;> fail) (by rfl) (by kernel_rfl) ?_)|(refine qw (fun _=>rfl) 300 (fun hg=>hdd) (fun hg=>qc) (fun hg=>(by (repeat' (first|exact trivial|exact Le.refl _|exact Le.cnd hg|(refine And.intro ?_ ?_))) <;> fail)) (by rfl) (by kernel_rfl) ?_)|refine zD 300 ?_|(apply zB <;> intro hb <;> (try simp [-zd] at hb) <;> try (exfalso;omega))|refine Ob.intro ?_ ?_))
  exact Le.refl _
 ·rw [Bool.not_eq_true] at hf
  rw [hf] at hft
  rw [hf]
  refine zK {} 300 Tryz.func22 (fun c0 rdb=>?_)
  (repeat' ((conv=>whnf);first|refine zA ?_|refine zO ?_|refine Ob.auto ?_|refine zC 300 (hft) ?_|refine zG 300 (fun hg=>hft) ?_|(refine CallY.con (hft) (by rfl) leA ?_)|(refine CallZ.con (fun hg=>hft) jn (by rfl) ?_)|(refine ql (fun _=>rfl) 300 (hft) qc (by (repeat' (first|exact trivial|exact Le.refl _|(refine And.intro ?_ ?_))) <;> fail) (by rfl) (by kernel_rfl) ?_)|(refine qw (fun _=>rfl) 300 (fun hg=>hft) (fun hg=>qc) (fun hg=>(by (repeat' (first|exact trivial|exact Le.refl _|exact Le.cnd hg|(refine And.intro ?_ ?_))) <;> fail)) (by rfl) (by kernel_rfl) ?_)|refine zD 300 ?_|(apply zB <;> intro hb <;> (try simp [-zd] at hb) <;> try (exfalso;omega))|refine Ob.intro ?_ ?_))
  exact Le.refl _
end Go.Proofs.YtikahnkkfkoglaaGreatDoor
end
