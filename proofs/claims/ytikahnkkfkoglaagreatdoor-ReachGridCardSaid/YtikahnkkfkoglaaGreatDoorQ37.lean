/- Some texts of the library, one behind the other. -/
import Derived.Test.YtikahnkkfkoglaaGreatDoorQ36
import Derived.Test.YtikahnkkfkoglaaGreatDoorQ2
set_option linter.unusedSimpArgs false
set_option linter.unusedVariables false
section
namespace Go.Proofs.YtikahnkkfkoglaaGreatDoor
open List renaming getD_eq_getElem?_getD → zd
open Go Go.Sx Go.RowKit Go.St
set_option maxRecDepth 100000
set_option maxHeartbeats 4000000
def jt (m:Md) (s:Stt) (i:Nat):List Mv:=(List.range i).flatMap (fun (p:Nat)=>if s.holder≠-1∧s.holder≠p then [] else qis m s p)
def qea (m:Md) (s:Stt) (p j:Nat):List Mv:=((List.range j).filter fun i=>canB m s p ((qu m p).getD i ed0)).map fun (i:Nat)=>⟨0,p,i,0⟩
def qcu (m:Md) (s:Stt) (c:Nat):List Mv:=(List.range c).flatMap (qfx m s)
theorem qxt (m:Md) (s:Stt) (i:Nat):jt m s (i+1)=jt m s i++(if s.holder≠-1∧s.holder≠(i:Int) then [] else qis m s i):=by
 unfold jt
 rw [zbi,List.flatMap_append];simp
theorem jhm (m:Md) (s:Stt) (p j:Nat):qea m s p (j+1)=qea m s p j++(if canB m s p ((qu m p).getD j ed0)=true then [⟨0,p,j,0⟩] else []):=by
 unfold qea
 rw [zbi,List.filter_append,List.map_append]
 congr 1
 by_cases h:canB m s p ((qu m p).getD j ed0)=true
 ·rw [zb h,List.filter_cons,zb h];rfl
 ·rw [za h,List.filter_cons,za h];rfl
theorem qpd (m:Md) (s:Stt) (c:Nat):qcu m s (c+1)=qcu m s c++qfx m s c:=by
 unfold qcu
 rw [zbi,List.flatMap_append];simp
theorem juo (m:Md) (s:Stt) (p:Nat):qea m s p (qu m p).length=qis m s p:=rfl
theorem jup (m:Md) (s:Stt) (c:Nat):(qfx m s c).length≤2:=by
 unfold qfx
 rw [zg]
 split <;> split <;> simp
theorem qxu (m:Md) (s:Stt):∀ c,(qcu m s c).length≤2 * c
 | 0=>by simp [qcu]
 | c+1=>by rw [qpd,zg];have:=qxu m s c;have:=jup m s c;omega
theorem jhn (m:Md) (s:Stt) (p j:Nat):(qea m s p j).length≤j:=by
 unfold qea
 rw [xi]
 exact zx (zal _ _) (by simp)
theorem qxv (m:Md) (hM:ModOk m) (s:Stt):∀ i,i≤m.procs.length→(jt m s i).length≤40000 * i
 | 0,_=>by simp [jt]
 | i+1,h=>by
  have h1:=qxv m hM s i (by omega)
  have h2:=(hM.psz _ (qr m.procs i pr0 (by omega))).1
  have h3:(qis m s i).length≤(qu m i).length:=jhn m s i _
  have h4:(qu m i).length≤40000:=h2
  rw [qxt,zg]
  split
  ·simp;omega
  ·omega
theorem qmk {α:Type} (enc:α→List AV) (d:α) {l l':List α} (h:l=l') {ids:List Nat} {e:TypeId} {sz ep:Nat}:SoLe (.row ids e sz ep l.length (encL enc d l)) (.row ids e sz ep l'.length (encL enc d l')):=by
 subst h;exact SoLe.refl _
theorem qxw {α:Type} (enc:α→List AV) (d:α) {l l':List α} {x:α} (h:l++[x]=l') {ids:List Nat} {e:TypeId} {sz ep:Nat} {g:Nat→List AV} (hg:g 0=enc x):SoLe (.row ids e sz ep (l.length+1) (appF l.length (encL enc d l) 1 g)) (.row ids e sz ep l'.length (encL enc d l')):=by
 subst h;exact ⟨⟨rfl,rfl,rfl⟩,rfl,by rw [zg];rfl,qrd hg⟩
theorem juq {α:Type} (enc:α→List AV) (d:α) {l l':List α} {x y:α} (h:l++[x,y]=l') {ids:List Nat} {e:TypeId} {sz ep:Nat} {g g':Nat→List AV} (hg:g 0=enc x) (hg':g' 0=enc y):SoLe (.row ids e sz ep (l.length+1+1) (appF (l.length+1) (appF l.length (encL enc d l) 1 g) 1 g')) (.row ids e sz ep l'.length (encL enc d l')):=by
 have h2:l++[x]++[y]=l':=by rw [← h];simp
 subst h2
 refine ⟨⟨rfl,rfl,rfl⟩,rfl,by rw [zg,zg];rfl,fun j hj=>?_⟩
 have hlen:(l++[x]).length=l.length+1:=by rw [zg];rfl
 by_cases hl:j<l.length+1
 ·have h1:=qrd (d:=d) (L:=l) hg j hl
  have e1:appF (l.length+1) (appF l.length (encL enc d l) 1 g) 1 g' j=appF l.length (encL enc d l) 1 g j:=zb hl
  have e2:encL enc d (l++[x]++[y]) j=encL enc d (l++[x]) j:=by unfold encL;rw [qke,zb (by omega)]
  rw [e1,e2];exact h1
 ·obtain rfl:j=l.length+1:=by omega
  have e1:appF (l.length+1) (appF l.length (encL enc d l) 1 g) 1 g' (l.length+1)=g' 0:=by unfold appF;rw [za (by omega),zb (by omega),zan]
  have e2:encL enc d (l++[x]++[y]) (l.length+1)=enc y:=by unfold encL;rw [qke,za (by omega),zb hlen.symm]
  rw [e1,e2,hg'];exact LeL.refl _
theorem jur {α:Type} {l l':List α} {x y:α} (h:l++[x,y]=l') (r:Nat):Le (.own r 0 0 (l.length+1+1)) (.own r 0 0 l'.length):=by
 subst h;exact Le.of_eq (by rw [zg];rfl)
theorem qxx {α:Type} {l l':List α} {x:α} (h:l++[x]=l') (r:Nat):Le (.own r 0 0 (l.length+1)) (.own r 0 0 l'.length):=by
 subst h;exact Le.of_eq (by rw [zg];rfl)
theorem qsk {α:Type} {l l':List α} (h:l=l') (r:Nat):Le (.own r 0 0 l.length) (.own r 0 0 l'.length):=by
 subst h;exact Le.refl _
theorem qxy (m:Md) (hM:ModOk m) (s:Stt) (hf:fitsB m s=true):Con Tryz.prog 48 [m.av,s.av] (jrb (ji m s)):=by
 have hs:=qff hM hf
 have hft:=qad m s hs
 rw [hf] at hft
 have h0:=((qap m s).1 hf).1
 have hz:=hM.sz
 have hpl:=qxv m hM s
 have hcl:=h0.2.2.1
 have hpz:=hM.psz
 refine zK {owns:=[(5,(48,4))]} 300 Tryz.func48 (fun c0 rdb=>?_)
 (repeat' ((conv=>whnf);first|refine zA ?_|refine zO ?_|refine Ob.auto ?_|refine zI ?_|refine zC 300 (hft) ?_|refine zG 300 (fun hg=>hft) ?_|(refine CallY.con (hft) (by rfl) leA ?_)|(refine CallZ.con (fun hg=>hft) jp (by rfl) ?_)|(refine qm (fun _=>rfl) 300 (hft) qc (by (repeat' (first|exact trivial|exact Le.refl _|(refine And.intro ?_ ?_))) <;> fail) (by rfl) (by kernel_rfl) ?_)|(refine jb (fun _=>rfl) 300 (fun hg=>hft) (fun hg=>qc) (fun hg=>(by (repeat' (first|exact trivial|exact Le.refl _|exact Le.cnd hg|(refine And.intro ?_ ?_))) <;> fail)) (by rfl) (by kernel_rfl) ?_)|refine zD 300 ?_|(apply zB <;> intro hb <;> (try simp [-zd] at hb) <;> try (exfalso;omega))|refine Ob.intro ?_ ?_))
 ((conv=>whnf);refine qt (fun _=>rfl) 300 1 (fun i:Nat=>[(18,iv i),(5,.own 2 0 0 (jt m s i).length)]) (fun i=>[(2,.row [] 48 4 0 (jt m s i).length (encL Mv.cells {} (jt m s i)))]) (fun i=>i≤m.procs.length) (fun i=>m.procs.length - i) (0) (zw _) qa ⟨qda (fun k hk=>absurd hk (zi k)),trivial⟩ (fun _=>rfl) (by kernel_rfl) ?_;(conv=>whnf))
 intro i hi
 have hpi:=hpl i hi
 (repeat' ((conv=>whnf);first|refine zA ?_|refine zO ?_|refine Ob.auto ?_|refine zI ?_|refine zD 300 ?_|(apply zB <;> intro hb <;> (try simp [-zd] at hb) <;> try (exfalso;omega))|refine Ob.intro ?_ ?_))
 ·have hp1:jt m s (i+1)=jt m s i:=by rw [qxt,zb hb,zap]
  ((conv=>whnf);refine ⟨i+1,by omega,⟨⟨Le.refl _,Le.of_eq (congrArg (fun l=>AV.own 2 0 0 (List.length l)) hp1.symm),trivial⟩,⟨qmk Mv.cells {} hp1.symm,trivial⟩⟩,⟨qa,qa⟩,?_⟩;(first|omega|(dsimp only;omega)|skip))
 ·have hp1:jt m s (i+1)=jt m s i++qis m s i:=by rw [qxt,za (fun h=>h.2 (hb h.1))]
  have hil:i<m.procs.length:=by assumption
  have hpe:=(hpz _ (qr m.procs i pr0 hil)).1
  have hel:(qu m i).length≤40000:=hpe
  have he0:jt m s i++qea m s i 0=jt m s i:=zap _
  ((conv=>whnf);refine jbe (fun _=>rfl) 300 2 [2,3,4,6,18,33,34,16,17] [0,1,3] (fun j:Nat=>[(35,iv j),(5,.own 2 0 0 (jt m s i++qea m s i j).length)]) (fun j=>[(2,.row [] 48 4 0 (jt m s i++qea m s i j).length (encL Mv.cells {} (jt m s i++qea m s i j)))]) (fun j=>j≤(qu m i).length) (fun j=>(qu m i).length - j) (0) (zw _) ⟨Le.refl _,Le.of_eq (congrArg (fun l=>AV.own 2 0 0 (List.length l)) he0.symm),trivial⟩ ⟨qmk Mv.cells {} he0.symm,trivial⟩ (fun _=>rfl) (by kernel_rfl) ?_;(conv=>whnf))
  intro j hj
  have hen:=jhn m s i j
  have hsum:(jt m s i++qea m s i j).length≤200000:=by rw [zg];omega
  generalize hL:jt m s i++qea m s i j=L at hsum ⊢
  (repeat' ((conv=>whnf);first|refine zA ?_|refine zO ?_|refine Ob.auto ?_|refine zI ?_|refine zC 300 (qjk m hM.ok s hf hs i hil ((qu m i).getD j ed0) (edOk hM hil (by exact hb))) ?_|refine zG 300 (fun hg=>qjk m hM.ok s hf hs i hil ((qu m i).getD j ed0) (edOk hM hil (by exact hb))) ?_|(refine CallY.con (qjk m hM.ok s hf hs i hil ((qu m i).getD j ed0) (edOk hM hil (by exact hb))) (by rfl) leA ?_)|(refine CallZ.con (fun hg=>qjk m hM.ok s hf hs i hil ((qu m i).getD j ed0) (edOk hM hil (by exact hb))) jp (by rfl) ?_)|(refine qm (fun _=>rfl) 300 (qjk m hM.ok s hf hs i hil ((qu m i).getD j ed0) (edOk hM hil (by exact hb))) qc (by (repeat' (first|exact trivial|exact Le.refl _|(refine And.intro ?_ ?_))) <;> fail) (by rfl) (by kernel_rfl) ?_)|(refine jb (fun _=>rfl) 300 (fun hg=>qjk m hM.ok s hf hs i hil ((qu m i).getD j ed0) (edOk hM hil (by exact hb))) (fun hg=>qc) (fun hg=>(by (repeat' (first|exact trivial|exact Le.refl _|exact Le.cnd hg|(refine And.intro ?_ ?_))) <;> fail)) (by rfl) (by kernel_rfl) ?_)|refine zD 300 ?_|(apply zB <;> intro hb <;> (try simp [-zd] at hb) <;> try (exfalso;omega))|refine Ob.intro ?_ ?_))
  ·have hjl:j<(qu m i).length:=by assumption
   have hE:L++[⟨0,i,j,0⟩]=jt m s i++qea m s i (j+1):=by rw [jhm,zb hb,← zv,hL]
   ((conv=>whnf);refine ⟨j+1,hjl,⟨⟨Le.refl _,qxx hE 2,trivial⟩,⟨qxw Mv.cells {} hE rfl,trivial⟩⟩,⟨qa,qa⟩,?_⟩;(first|omega|(dsimp only;omega)|skip))
  ·have hjl:j<(qu m i).length:=by assumption
   have hE:L=jt m s i++qea m s i (j+1):=by rw [jhm,za (by rw [hb];decide),zap,hL]
   ((conv=>whnf);refine ⟨j+1,hjl,⟨⟨Le.refl _,qsk hE 2,trivial⟩,⟨qmk Mv.cells {} hE,trivial⟩⟩,⟨qa,qa⟩,?_⟩;(first|omega|(dsimp only;omega)|skip))
  ·have hjl:(qu m i).length≤j:=by assumption
   obtain rfl:j=(qu m i).length:=by omega
   rw [juo,← hp1] at hL
   ((conv=>whnf);refine ⟨i+1,hil,⟨⟨Le.refl _,qsk hL.symm 2,trivial⟩,⟨qmk Mv.cells {} hL.symm,trivial⟩⟩,⟨qa,qa⟩,?_⟩;(first|omega|(dsimp only;omega)|skip))
 ·have hmv:ji m s=jt m s i:=by
   obtain rfl:i=m.procs.length:=by omega
   unfold ji
   rw [za (by assumption),zap];rfl
  rw [hmv]
  exact Le.refl _
 ·obtain rfl:i=m.procs.length:=by omega
  have hmv:ji m s=jt m s m.procs.length++qcu m s m.chans.length:=by
   unfold ji
   rw [zb (by assumption)];rfl
  have he0:jt m s m.procs.length++qcu m s 0=jt m s m.procs.length:=zap _
  ((conv=>whnf);refine qt (fun _=>rfl) 300 2 (fun c:Nat=>[(60,iv c),(5,.own 2 0 0 (jt m s m.procs.length++qcu m s c).length)]) (fun c=>[(2,.row [] 48 4 0 (jt m s m.procs.length++qcu m s c).length (encL Mv.cells {} (jt m s m.procs.length++qcu m s c)))]) (fun c=>c≤m.chans.length) (fun c=>m.chans.length - c) (0) (zw _) ⟨Le.refl _,qsk he0.symm 2,trivial⟩ ⟨qmk Mv.cells {} he0.symm,trivial⟩ (fun _=>rfl) (by kernel_rfl) ?_;(conv=>whnf))
  intro c hc
  have hcn:=qxu m s c
  have hsum:(jt m s m.procs.length++qcu m s c).length≤200000:=by rw [zg];omega
  generalize hL:jt m s m.procs.length++qcu m s c=L at hsum ⊢
  (repeat' ((conv=>whnf);first|refine zA ?_|refine zO ?_|refine Ob.auto ?_|refine zI ?_|refine zC 300 (qku m hM.ok s hcl c (by omega)) ?_|refine zG 300 (fun hg=>qku m hM.ok s hcl c (by omega)) ?_|(refine CallY.con (qku m hM.ok s hcl c (by omega)) (by rfl) leA ?_)|(refine CallZ.con (fun hg=>qku m hM.ok s hcl c (by omega)) jp (by rfl) ?_)|refine zC 300 (qkv m hM.ok s hcl c (by omega)) ?_|refine zG 300 (fun hg=>qkv m hM.ok s hcl c (by omega)) ?_|(refine CallY.con (qkv m hM.ok s hcl c (by omega)) (by rfl) leA ?_)|(refine CallZ.con (fun hg=>qkv m hM.ok s hcl c (by omega)) jp (by rfl) ?_)|(refine qm (fun _=>rfl) 300 (qku m hM.ok s hcl c (by omega)) qc (by (repeat' (first|exact trivial|exact Le.refl _|(refine And.intro ?_ ?_))) <;> fail) (by rfl) (by kernel_rfl) ?_)|(refine jb (fun _=>rfl) 300 (fun hg=>qku m hM.ok s hcl c (by omega)) (fun hg=>qc) (fun hg=>(by (repeat' (first|exact trivial|exact Le.refl _|exact Le.cnd hg|(refine And.intro ?_ ?_))) <;> fail)) (by rfl) (by kernel_rfl) ?_)|(refine qm (fun _=>rfl) 300 (qkv m hM.ok s hcl c (by omega)) qc (by (repeat' (first|exact trivial|exact Le.refl _|(refine And.intro ?_ ?_))) <;> fail) (by rfl) (by kernel_rfl) ?_)|(refine jb (fun _=>rfl) 300 (fun hg=>qkv m hM.ok s hcl c (by omega)) (fun hg=>qc) (fun hg=>(by (repeat' (first|exact trivial|exact Le.refl _|exact Le.cnd hg|(refine And.intro ?_ ?_))) <;> fail)) (by rfl) (by kernel_rfl) ?_)|refine zD 300 ?_|(apply zB <;> intro hb <;> (try simp [-zd] at hb) <;> try (exfalso;omega))|refine Ob.intro ?_ ?_))
  ·have hE:L++[⟨1,0,0,c⟩,⟨2,0,0,c⟩]=jt m s m.procs.length++qcu m s (c+1):=by rw [qpd,← zv,hL];simp [qfx, *]
   ((conv=>whnf);refine ⟨c+1,by omega,⟨⟨Le.refl _,jur hE 2,trivial⟩,⟨juq Mv.cells {} hE rfl rfl,trivial⟩⟩,⟨qa,qa⟩,?_⟩;(first|omega|(dsimp only;omega)|skip))
  ·have hE:L++[⟨1,0,0,c⟩]=jt m s m.procs.length++qcu m s (c+1):=by rw [qpd,← zv,hL];simp [qfx, *]
   ((conv=>whnf);refine ⟨c+1,by omega,⟨⟨Le.refl _,qxx hE 2,trivial⟩,⟨qxw Mv.cells {} hE rfl,trivial⟩⟩,⟨qa,qa⟩,?_⟩;(first|omega|(dsimp only;omega)|skip))
  ·have hE:L++[⟨2,0,0,c⟩]=jt m s m.procs.length++qcu m s (c+1):=by rw [qpd,← zv,hL];simp [qfx, *]
   ((conv=>whnf);refine ⟨c+1,by omega,⟨⟨Le.refl _,qxx hE 2,trivial⟩,⟨qxw Mv.cells {} hE rfl,trivial⟩⟩,⟨qa,qa⟩,?_⟩;(first|omega|(dsimp only;omega)|skip))
  ·have hE:L=jt m s m.procs.length++qcu m s (c+1):=by rw [qpd,← zv,hL];simp [qfx, *]
   ((conv=>whnf);refine ⟨c+1,by omega,⟨⟨Le.refl _,qsk hE 2,trivial⟩,⟨qmk Mv.cells {} hE,trivial⟩⟩,⟨qa,qa⟩,?_⟩;(first|omega|(dsimp only;omega)|skip))
  ·obtain rfl:c=m.chans.length:=by omega
   rw [hmv,hL]
   exact Le.refl _
theorem jus (m:Md) (hM:ModOk m) (s:Stt) (hs:SSz s):Con Tryz.prog 47 [m.av,s.av] (.bool (fitsB m s && quz m s)):=by
 have hft:=qad m s hs
 by_cases hf:fitsB m s=true
 ·have hmv:=qxy m hM s hf
  have h0:=(qap m s).1 hf
  have hz:=hM.sz
  have hr:=fun (q:Pr) hq=>(hM.pr q hq).rl
  rw [hf] at hft
  rw [hf,zao]
  unfold quz
  generalize hL:ji m s=L at hmv
  refine zK {} 300 Tryz.func47 (fun c0 rdb=>?_)
  (repeat' ((conv=>whnf);first|refine zA ?_|refine zO ?_|refine Ob.auto ?_|refine zI ?_|refine zC 300 (hft) ?_|refine zG 300 (fun hg=>hft) ?_|(refine CallY.con (hft) (by rfl) leA ?_)|(refine CallZ.con (fun hg=>hft) jp (by rfl) ?_)|refine zC 300 (hmv) ?_|refine zG 300 (fun hg=>hmv) ?_|(refine CallY.con (hmv) (by rfl) leA ?_)|(refine CallZ.con (fun hg=>hmv) jp (by rfl) ?_)|(refine qm (fun _=>rfl) 300 (hft) qc (by (repeat' (first|exact trivial|exact Le.refl _|(refine And.intro ?_ ?_))) <;> fail) (by rfl) (by kernel_rfl) ?_)|(refine jb (fun _=>rfl) 300 (fun hg=>hft) (fun hg=>qc) (fun hg=>(by (repeat' (first|exact trivial|exact Le.refl _|exact Le.cnd hg|(refine And.intro ?_ ?_))) <;> fail)) (by rfl) (by kernel_rfl) ?_)|(refine qm (fun _=>rfl) 300 (hmv) qc (by (repeat' (first|exact trivial|exact Le.refl _|(refine And.intro ?_ ?_))) <;> fail) (by rfl) (by kernel_rfl) ?_)|(refine jb (fun _=>rfl) 300 (fun hg=>hmv) (fun hg=>qc) (fun hg=>(by (repeat' (first|exact trivial|exact Le.refl _|exact Le.cnd hg|(refine And.intro ?_ ?_))) <;> fail)) (by rfl) (by kernel_rfl) ?_)|refine zD 300 ?_|(apply zB <;> intro hb <;> (try simp [-zd] at hb) <;> try (exfalso;omega))|refine Ob.intro ?_ ?_))
  ·rw [show L.isEmpty=false from by cases L with|nil=>simp at hb|cons a b=>rfl]
   exact Le.refl _
  ·subst hb
   have hat:=h0.1.1
   have hfa:=h0.2.1
   ((conv=>whnf);refine qt (fun _=>rfl) 300 1 (fun i:Nat=>[(21,iv i),(4,.bool false)]) (fun _=>[]) (fun i=>i≤m.procs.length∧∀ j,j<i→(m.procs.getD j pr0).rest.getD (s.at_.getD j 0).toNat false=true) (fun i=>m.procs.length - i) (0) (⟨zw _,fun j hj=>absurd hj (zi j)⟩) qa qa (fun _=>rfl) (by kernel_rfl) ?_;(conv=>whnf))
   intro i hi
   have hri:i<m.procs.length→0≤s.at_.getD i 0∧s.at_.getD i 0<((m.procs.getD i pr0).rest.length:Int):=fun h=>by
    have h1:=hfa i (by omega)
    have h2:=hr _ (qr m.procs i pr0 h)
    unfold qlt at h1
    omega
   (repeat' ((conv=>whnf);first|refine zA ?_|refine zO ?_|refine Ob.auto ?_|(refine Ob.intro (by (first|exact ⟨by omega,by omega⟩|exact hri (by omega))) ?_)|refine zD 300 ?_|(apply zB <;> intro hb <;> (try simp [-zd] at hb) <;> try (exfalso;omega))|refine Ob.intro ?_ ?_))
   ·rw [show quy m s=false from jbz (i:=i) (by omega) (by assumption)]
    exact Le.refl _
   ·((conv=>whnf);refine ⟨i+1,⟨by omega,qcc hi.2 (by assumption)⟩,⟨qa,qa⟩,⟨qa,qa⟩,?_⟩;(first|omega|(dsimp only;omega)|skip))
   ·rw [show quy m s=true from qnw fun j hj=>hi.2 j (by omega)]
    exact Le.refl _
 ·rw [Bool.not_eq_true] at hf
  rw [hf] at hft
  rw [hf]
  refine zK {} 300 Tryz.func47 (fun c0 rdb=>?_)
  (repeat' ((conv=>whnf);first|refine zA ?_|refine zO ?_|refine Ob.auto ?_|refine zC 300 (hft) ?_|refine zG 300 (fun hg=>hft) ?_|(refine CallY.con (hft) (by rfl) leA ?_)|(refine CallZ.con (fun hg=>hft) jp (by rfl) ?_)|refine zC 300 ((absurd hg (by decide):Con Tryz.prog 48 [m.av,s.av] (.slc 4 0 (fun _=>[])))) ?_|refine zG 300 (fun hg=>(absurd hg (by decide):Con Tryz.prog 48 [m.av,s.av] (.slc 4 0 (fun _=>[])))) ?_|(refine CallY.con ((absurd hg (by decide):Con Tryz.prog 48 [m.av,s.av] (.slc 4 0 (fun _=>[])))) (by rfl) leA ?_)|(refine CallZ.con (fun hg=>(absurd hg (by decide):Con Tryz.prog 48 [m.av,s.av] (.slc 4 0 (fun _=>[])))) jp (by rfl) ?_)|(refine qm (fun _=>rfl) 300 (hft) qc (by (repeat' (first|exact trivial|exact Le.refl _|(refine And.intro ?_ ?_))) <;> fail) (by rfl) (by kernel_rfl) ?_)|(refine jb (fun _=>rfl) 300 (fun hg=>hft) (fun hg=>qc) (fun hg=>(by (repeat' (first|exact trivial|exact Le.refl _|exact Le.cnd hg|(refine And.intro ?_ ?_))) <;> fail)) (by rfl) (by kernel_rfl) ?_)|(refine qm (fun _=>rfl) 300 ((absurd hg (by decide):Con Tryz.prog 48 [m.av,s.av] (.slc 4 0 (fun _=>[])))) qc (by (repeat' (first|exact trivial|exact Le.refl _|(refine And.intro ?_ ?_))) <;> fail) (by rfl) (by kernel_rfl) ?_)|(refine jb (fun _=>rfl) 300 (fun hg=>(absurd hg (by decide):Con Tryz.prog 48 [m.av,s.av] (.slc 4 0 (fun _=>[])))) (fun hg=>qc) (fun hg=>(by (repeat' (first|exact trivial|exact Le.refl _|exact Le.cnd hg|(refine And.intro ?_ ?_))) <;> fail)) (by rfl) (by kernel_rfl) ?_)|refine zD 300 ?_|(apply zB <;> intro hb <;> (try simp [-zd] at hb) <;> try (exfalso;omega))|refine Ob.intro ?_ ?_))
  exact Le.refl _
theorem jut (m:Md) (hM:ModOk m) (s:Stt) (hs:SSz s):Con Tryz.prog 22 [m.av,s.av] (.bool (fitsB m s && badB m s)):=by
 have hft:=qad m s hs
 have hsf:=jqo m hM.ok s hs
 have hdd:=jus m hM s hs
 by_cases hf:fitsB m s=true
 ·rw [hf] at hft hsf hdd
  rw [hf,zao]
  have e:(m.safe.isEmpty || (true && qnv m s))=qnv m s:=by
   rw [zao]
   unfold qnv
   cases m.safe with
   | nil=>rfl
   | cons a b=>rfl
  rw [e] at hsf
  rw [zao] at hdd
  unfold badB
  refine zK {} 300 Tryz.func22 (fun c0 rdb=>?_)
  (repeat' ((conv=>whnf);first|refine zA ?_|refine zO ?_|refine Ob.auto ?_|refine zC 300 (hft) ?_|refine zG 300 (fun hg=>hft) ?_|(refine CallY.con (hft) (by rfl) leA ?_)|(refine CallZ.con (fun hg=>hft) jp (by rfl) ?_)|refine zC 300 (hsf) ?_|refine zG 300 (fun hg=>hsf) ?_|(refine CallY.con (hsf) (by rfl) leA ?_)|(refine CallZ.con (fun hg=>hsf) jp (by rfl) ?_)|refine zC 300 (hdd) ?_|refine zG 300 (fun hg=>hdd) ?_|(refine CallY.con (hdd) (by rfl) leA ?_)|(refine CallZ.con (fun hg=>hdd) jp (by rfl) ?_)|(refine qm (fun _=>rfl) 300 (hft) qc (by (repeat' (first|exact trivial|exact Le.refl _|(refine And.intro ?_ ?_))) <;> fail) (by rfl) (by kernel_rfl) ?_)|(refine jb (fun _=>rfl) 300 (fun hg=>hft) (fun hg=>qc) (fun hg=>(by (repeat' (first|exact trivial|exact Le.refl _|exact Le.cnd hg|(refine And.intro ?_ ?_))) <;> fail)) (by rfl) (by kernel_rfl) ?_)|(refine qm (fun _=>rfl) 300 (hsf) qc (by (repeat' (first|exact trivial|exact Le.refl _|(refine And.intro ?_ ?_))) <;> fail) (by rfl) (by kernel_rfl) ?_)|(refine jb (fun _=>rfl) 300 (fun hg=>hsf) (fun hg=>qc) (fun hg=>(by (repeat' (first|exact trivial|exact Le.refl _|exact Le.cnd hg|(refine And.intro ?_ ?_))) <;> fail)) (by rfl) (by kernel_rfl) ?_)|(refine qm (fun _=>rfl) 300 (hdd) qc (by (repeat' (first|exact trivial|exact Le.refl _|(refine And.intro ?_ ?_))) <;> fail) (by rfl) (by kernel_rfl) ?_)|(refine jb (fun _=>rfl) 300 (fun hg=>hdd) (fun hg=>qc) (fun hg=>(by (repeat' (first|exact trivial|exact Le.refl _|exact Le.cnd hg|(refine And.intro ?_ ?_))) <;> fail)) (by rfl) (by kernel_rfl) ?_)|refine zD 300 ?_|(apply zB <;> intro hb <;> (try simp [-zd] at hb) <;> try (exfalso;omega))|refine Ob.intro ?_ ?_))
  exact Le.refl _
 ·rw [Bool.not_eq_true] at hf
  rw [hf] at hft
  rw [hf]
  refine zK {} 300 Tryz.func22 (fun c0 rdb=>?_)
  (repeat' ((conv=>whnf);first|refine zA ?_|refine zO ?_|refine Ob.auto ?_|refine zC 300 (hft) ?_|refine zG 300 (fun hg=>hft) ?_|(refine CallY.con (hft) (by rfl) leA ?_)|(refine CallZ.con (fun hg=>hft) jp (by rfl) ?_)|(refine qm (fun _=>rfl) 300 (hft) qc (by (repeat' (first|exact trivial|exact Le.refl _|(refine And.intro ?_ ?_))) <;> fail) (by rfl) (by kernel_rfl) ?_)|(refine jb (fun _=>rfl) 300 (fun hg=>hft) (fun hg=>qc) (fun hg=>(by (repeat' (first|exact trivial|exact Le.refl _|exact Le.cnd hg|(refine And.intro ?_ ?_))) <;> fail)) (by rfl) (by kernel_rfl) ?_)|refine zD 300 ?_|(apply zB <;> intro hb <;> (try simp [-zd] at hb) <;> try (exfalso;omega))|refine Ob.intro ?_ ?_))
  exact Le.refl _
end Go.Proofs.YtikahnkkfkoglaaGreatDoor
end
