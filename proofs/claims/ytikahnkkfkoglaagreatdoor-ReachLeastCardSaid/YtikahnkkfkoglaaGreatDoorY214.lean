/- Some texts of the library, one behind the other. -/
import Derived.Test.YtikahnkkfkoglaaGreatDoorY213
import Derived.Test.YtikahnkkfkoglaaGreatDoorY22
import Derived.Test.YtikahnkkfkoglaaGreatDoorY212
import Derived.Test.YtikahnkkfkoglaaGreatDoorY28
import Derived.Test.YtikahnkkfkoglaaGreatDoorY25
import Derived.Test.YtikahnkkfkoglaaGreatDoorY27
set_option linter.unusedSimpArgs false
set_option linter.unusedVariables false
section
namespace Go.Proofs.YtikahnkkfkoglaaGreatDoor
open List renaming getD_eq_getElem?_getD → zd
open Go Go.Sx Go.RowKit Go.St
set_option maxRecDepth 100000
set_option maxHeartbeats 4000000
def qu (m:Md) (s:Stt) (i:Nat):List Mv:=(List.range i).flatMap (fun (p:Nat)=>if s.holder≠-1∧s.holder≠p then [] else qhy m s p)
def qbw (m:Md) (s:Stt) (p j:Nat):List Mv:=((List.range j).filter fun i=>canB m s p ((qo m p).getD i ed0)).map fun (i:Nat)=>⟨0,p,i,0⟩
def qay (m:Md) (s:Stt) (c:Nat):List Mv:=(List.range c).flatMap (qep m s)
theorem qpo (m:Md) (s:Stt) (i:Nat):qu m s (i+1)=qu m s i++(if s.holder≠-1∧s.holder≠(i:Int) then [] else qhy m s i):=by
 unfold qu
 rw [zbj,List.flatMap_append];simp
theorem qtd (m:Md) (s:Stt) (p j:Nat):qbw m s p (j+1)=qbw m s p j++(if canB m s p ((qo m p).getD j ed0)=true then [⟨0,p,j,0⟩] else []):=by
 unfold qbw
 rw [zbj,List.filter_append,List.map_append]
 congr 1
 by_cases h:canB m s p ((qo m p).getD j ed0)=true
 ·rw [zb h,List.filter_cons,zb h];rfl
 ·rw [za h,List.filter_cons,za h];rfl
theorem qic (m:Md) (s:Stt) (c:Nat):qay m s (c+1)=qay m s c++qep m s c:=by
 unfold qay
 rw [zbj,List.flatMap_append];simp
theorem jed (m:Md) (s:Stt) (p:Nat):qbw m s p (qo m p).length=qhy m s p:=rfl
theorem jrp (m:Md) (s:Stt) (c:Nat):(qep m s c).length≤2:=by
 unfold qep
 rw [zg]
 split <;> split <;> simp
theorem qte (m:Md) (s:Stt):∀ c,(qay m s c).length≤2 * c
 | 0=>by simp [qay]
 | c+1=>by rw [qic,zg];have:=qte m s c;have:=jrp m s c;omega
theorem qwz (m:Md) (s:Stt) (p j:Nat):(qbw m s p j).length≤j:=by
 unfold qbw
 rw [xh]
 exact xa (zas _ _) (by simp)
theorem qtf (m:Md) (hM:ModOk m) (s:Stt):∀ i,i≤m.procs.length→(qu m s i).length≤40000 * i
 | 0,_=>by simp [qu]
 | i+1,h=>by
  have h1:=qtf m hM s i (by omega)
  have h2:=(hM.psz _ (qk m.procs i pr0 (by omega))).1
  have h3:(qhy m s i).length≤(qo m i).length:=qwz m s i _
  have h4:(qo m i).length≤40000:=h2
  rw [qpo,zg]
  split
  ·simp;omega
  ·omega
theorem qfj {α:Type} (enc:α→List AV) (d:α) {l l':List α} (h:l=l') {ids:List Nat} {e:TypeId} {sz ep:Nat}:SoLe (.row ids e sz ep l.length (encL enc d l)) (.row ids e sz ep l'.length (encL enc d l')):=by
 subst h;exact SoLe.refl _
theorem qmo {α:Type} (enc:α→List AV) (d:α) {l l':List α} {x:α} (h:l++[x]=l') {ids:List Nat} {e:TypeId} {sz ep:Nat} {g:Nat→List AV} (hg:g 0=enc x):SoLe (.row ids e sz ep (l.length+1) (appF l.length (encL enc d l) 1 g)) (.row ids e sz ep l'.length (encL enc d l')):=by
 subst h;exact ⟨⟨rfl,rfl,rfl⟩,rfl,by rw [zg];rfl,qhv hg⟩
theorem jee {α:Type} (enc:α→List AV) (d:α) {l l':List α} {x y:α} (h:l++[x,y]=l') {ids:List Nat} {e:TypeId} {sz ep:Nat} {g g':Nat→List AV} (hg:g 0=enc x) (hg':g' 0=enc y):SoLe (.row ids e sz ep (l.length+1+1) (appF (l.length+1) (appF l.length (encL enc d l) 1 g) 1 g')) (.row ids e sz ep l'.length (encL enc d l')):=by
 have h2:l++[x]++[y]=l':=by rw [← h];simp
 subst h2
 refine ⟨⟨rfl,rfl,rfl⟩,rfl,by rw [zg,zg];rfl,fun j hj=>?_⟩
 have hlen:(l++[x]).length=l.length+1:=by rw [zg];rfl
 by_cases hl:j<l.length+1
 ·have h1:=qhv (d:=d) (L:=l) hg j hl
  have e1:appF (l.length+1) (appF l.length (encL enc d l) 1 g) 1 g' j=appF l.length (encL enc d l) 1 g j:=zb hl
  have e2:encL enc d (l++[x]++[y]) j=encL enc d (l++[x]) j:=by unfold encL;rw [qko,zb (by omega)]
  rw [e1,e2];exact h1
 ·obtain rfl:j=l.length+1:=by omega
  have e1:appF (l.length+1) (appF l.length (encL enc d l) 1 g) 1 g' (l.length+1)=g' 0:=by unfold appF;rw [za (by omega),zb (by omega),zai]
  have e2:encL enc d (l++[x]++[y]) (l.length+1)=enc y:=by unfold encL;rw [qko,za (by omega),zb hlen.symm]
  rw [e1,e2,hg'];exact LeL.refl _
theorem jef {α:Type} {l l':List α} {x y:α} (h:l++[x,y]=l') (r:Nat):Le (.own r 0 0 (l.length+1+1)) (.own r 0 0 l'.length):=by
 subst h;exact Le.of_eq (by rw [zg];rfl)
theorem qmp {α:Type} {l l':List α} {x:α} (h:l++[x]=l') (r:Nat):Le (.own r 0 0 (l.length+1)) (.own r 0 0 l'.length):=by
 subst h;exact Le.of_eq (by rw [zg];rfl)
theorem qhc {α:Type} {l l':List α} (h:l=l') (r:Nat):Le (.own r 0 0 l.length) (.own r 0 0 l'.length):=by
 subst h;exact Le.refl _
theorem jeg (m:Md) (hM:ModOk m) (s:Stt) (hf:fitsB m s=true):Con Tryz.prog 48 [m.av,s.av] (qox (qp m s)):=by
 have hs:=qco hM hf
 have hft:=qag m s hs
 rw [hf] at hft
 have h0:=((jn m s).1 hf).1
 have hz:=hM.sz
 have hpl:=qtf m hM s
 have hcl:=h0.2.2.1
 have hpz:=hM.psz
 refine zK {owns:=[(5,(48,4))]} 300 Tryz.func48 (fun c0 rdb=>?_)
 (repeat' ((conv=>whnf);first|refine zA ?_|refine zO ?_|refine Ob.auto ?_|refine zI ?_|refine zC 300 (hft) ?_|refine zG 300 (fun hg=>hft) ?_|(refine CallY.con (hft) (by rfl) leA ?_)|(refine CallZ.con (fun hg=>hft) qz (by rfl) ?_)|(refine qi (fun _=>rfl) 300 (hft) qc (by (repeat' (first|exact trivial|exact Le.refl _|(refine And.intro ?_ ?_))) <;> fail) (by rfl) (by kernel_rfl) ?_)|(refine qq (fun _=>rfl) 300 (fun hg=>hft) (fun hg=>qc) (fun hg=>(by (repeat' (first|exact trivial|exact Le.refl _|exact Le.cnd hg|(refine And.intro ?_ ?_))) <;> fail)) (by rfl) (by kernel_rfl) ?_)|refine zD 300 ?_|(apply zB <;> intro hb <;> (try simp [-zd] at hb) <;> try (exfalso;omega))|refine Ob.intro ?_ ?_))
 ((conv=>whnf);refine qm (fun _=>rfl) 300 1 (fun i:Nat=>[(18,iv i),(5,.own 2 0 0 (qu m s i).length)]) (fun i=>[(2,.row [] 48 4 0 (qu m s i).length (encL Mv.cells {} (qu m s i)))]) (fun i=>i≤m.procs.length) (fun i=>m.procs.length - i) (0) (zv _) qa ⟨qcb (fun k hk=>absurd hk (zh k)),trivial⟩ (fun _=>rfl) (by kernel_rfl) ?_;(conv=>whnf))
 intro i hi
 have hpi:=hpl i hi
 (repeat' ((conv=>whnf);first|refine zA ?_|refine zO ?_|refine Ob.auto ?_|refine zI ?_|refine zD 300 ?_|(apply zB <;> intro hb <;> (try simp [-zd] at hb) <;> try (exfalso;omega))|refine Ob.intro ?_ ?_))
 ·have hp1:qu m s (i+1)=qu m s i:=by rw [qpo,zb hb,xl]
  ((conv=>whnf);refine ⟨i+1,by omega,⟨⟨Le.refl _,Le.of_eq (congrArg (fun l=>AV.own 2 0 0 (List.length l)) hp1.symm),trivial⟩,⟨qfj Mv.cells {} hp1.symm,trivial⟩⟩,⟨qa,qa⟩,?_⟩;(first|omega|(dsimp only;omega)|skip))
 ·have hp1:qu m s (i+1)=qu m s i++qhy m s i:=by rw [qpo,za (fun h=>h.2 (hb h.1))]
  have hil:i<m.procs.length:=by assumption
  have hpe:=(hpz _ (qk m.procs i pr0 hil)).1
  have hel:(qo m i).length≤40000:=hpe
  have he0:qu m s i++qbw m s i 0=qu m s i:=xl _
  ((conv=>whnf);refine qiy (fun _=>rfl) 300 2 [2,3,4,6,18,33,34,16,17] [0,1,3] (fun j:Nat=>[(35,iv j),(5,.own 2 0 0 (qu m s i++qbw m s i j).length)]) (fun j=>[(2,.row [] 48 4 0 (qu m s i++qbw m s i j).length (encL Mv.cells {} (qu m s i++qbw m s i j)))]) (fun j=>j≤(qo m i).length) (fun j=>(qo m i).length - j) (0) (zv _) ⟨Le.refl _,Le.of_eq (congrArg (fun l=>AV.own 2 0 0 (List.length l)) he0.symm),trivial⟩ ⟨qfj Mv.cells {} he0.symm,trivial⟩ (fun _=>rfl) (by kernel_rfl) ?_;(conv=>whnf))
  intro j hj
  have hen:=qwz m s i j
  have hsum:(qu m s i++qbw m s i j).length≤200000:=by rw [zg];omega
  generalize hL:qu m s i++qbw m s i j=L at hsum ⊢
  (repeat' ((conv=>whnf);first|refine zA ?_|refine zO ?_|refine Ob.auto ?_|refine zI ?_|refine zC 300 (qjk m hM.ok s hf hs i hil ((qo m i).getD j ed0) (edOk hM hil (by exact hb))) ?_|refine zG 300 (fun hg=>qjk m hM.ok s hf hs i hil ((qo m i).getD j ed0) (edOk hM hil (by exact hb))) ?_|(refine CallY.con (qjk m hM.ok s hf hs i hil ((qo m i).getD j ed0) (edOk hM hil (by exact hb))) (by rfl) leA ?_)|(refine CallZ.con (fun hg=>qjk m hM.ok s hf hs i hil ((qo m i).getD j ed0) (edOk hM hil (by exact hb))) qz (by rfl) ?_)|(refine qi (fun _=>rfl) 300 (qjk m hM.ok s hf hs i hil ((qo m i).getD j ed0) (edOk hM hil (by exact hb))) qc (by (repeat' (first|exact trivial|exact Le.refl _|(refine And.intro ?_ ?_))) <;> fail) (by rfl) (by kernel_rfl) ?_)|(refine qq (fun _=>rfl) 300 (fun hg=>qjk m hM.ok s hf hs i hil ((qo m i).getD j ed0) (edOk hM hil (by exact hb))) (fun hg=>qc) (fun hg=>(by (repeat' (first|exact trivial|exact Le.refl _|exact Le.cnd hg|(refine And.intro ?_ ?_))) <;> fail)) (by rfl) (by kernel_rfl) ?_)|refine zD 300 ?_|(apply zB <;> intro hb <;> (try simp [-zd] at hb) <;> try (exfalso;omega))|refine Ob.intro ?_ ?_))
  ·have hjl:j<(qo m i).length:=by assumption
   have hE:L++[⟨0,i,j,0⟩]=qu m s i++qbw m s i (j+1):=by rw [qtd,zb hb,← zn,hL]
   ((conv=>whnf);refine ⟨j+1,hjl,⟨⟨Le.refl _,qmp hE 2,trivial⟩,⟨qmo Mv.cells {} hE rfl,trivial⟩⟩,⟨qa,qa⟩,?_⟩;(first|omega|(dsimp only;omega)|skip))
  ·have hjl:j<(qo m i).length:=by assumption
   have hE:L=qu m s i++qbw m s i (j+1):=by rw [qtd,za (by rw [hb];decide),xl,hL]
   ((conv=>whnf);refine ⟨j+1,hjl,⟨⟨Le.refl _,qhc hE 2,trivial⟩,⟨qfj Mv.cells {} hE,trivial⟩⟩,⟨qa,qa⟩,?_⟩;(first|omega|(dsimp only;omega)|skip))
  ·have hjl:(qo m i).length≤j:=by assumption
   obtain rfl:j=(qo m i).length:=by omega
   rw [jed,← hp1] at hL
   ((conv=>whnf);refine ⟨i+1,hil,⟨⟨Le.refl _,qhc hL.symm 2,trivial⟩,⟨qfj Mv.cells {} hL.symm,trivial⟩⟩,⟨qa,qa⟩,?_⟩;(first|omega|(dsimp only;omega)|skip))
 ·have hmv:qp m s=qu m s i:=by
   obtain rfl:i=m.procs.length:=by omega
   unfold qp
   rw [za (by assumption),xl];rfl
  rw [hmv]
  exact Le.refl _
 ·obtain rfl:i=m.procs.length:=by omega
  have hmv:qp m s=qu m s m.procs.length++qay m s m.chans.length:=by
   unfold qp
   rw [zb (by assumption)];rfl
  have he0:qu m s m.procs.length++qay m s 0=qu m s m.procs.length:=xl _
  ((conv=>whnf);refine qm (fun _=>rfl) 300 2 (fun c:Nat=>[(60,iv c),(5,.own 2 0 0 (qu m s m.procs.length++qay m s c).length)]) (fun c=>[(2,.row [] 48 4 0 (qu m s m.procs.length++qay m s c).length (encL Mv.cells {} (qu m s m.procs.length++qay m s c)))]) (fun c=>c≤m.chans.length) (fun c=>m.chans.length - c) (0) (zv _) ⟨Le.refl _,qhc he0.symm 2,trivial⟩ ⟨qfj Mv.cells {} he0.symm,trivial⟩ (fun _=>rfl) (by kernel_rfl) ?_;(conv=>whnf))
  intro c hc
  have hcn:=qte m s c
  have hsum:(qu m s m.procs.length++qay m s c).length≤200000:=by rw [zg];omega
  generalize hL:qu m s m.procs.length++qay m s c=L at hsum ⊢
  (repeat' ((conv=>whnf);first|refine zA ?_|refine zO ?_|refine Ob.auto ?_|refine zI ?_|refine zC 300 (qkz m hM.ok s hcl c (by omega)) ?_|refine zG 300 (fun hg=>qkz m hM.ok s hcl c (by omega)) ?_|(refine CallY.con (qkz m hM.ok s hcl c (by omega)) (by rfl) leA ?_)|(refine CallZ.con (fun hg=>qkz m hM.ok s hcl c (by omega)) qz (by rfl) ?_)|refine zC 300 (qla m hM.ok s hcl c (by omega)) ?_|refine zG 300 (fun hg=>qla m hM.ok s hcl c (by omega)) ?_|(refine CallY.con (qla m hM.ok s hcl c (by omega)) (by rfl) leA ?_)|(refine CallZ.con (fun hg=>qla m hM.ok s hcl c (by omega)) qz (by rfl) ?_)|(refine qi (fun _=>rfl) 300 (qkz m hM.ok s hcl c (by omega)) qc (by (repeat' (first|exact trivial|exact Le.refl _|(refine And.intro ?_ ?_))) <;> fail) (by rfl) (by kernel_rfl) ?_)|(refine qq (fun _=>rfl) 300 (fun hg=>qkz m hM.ok s hcl c (by omega)) (fun hg=>qc) (fun hg=>(by (repeat' (first|exact trivial|exact Le.refl _|exact Le.cnd hg|(refine And.intro ?_ ?_))) <;> fail)) (by rfl) (by kernel_rfl) ?_)|(refine qi (fun _=>rfl) 300 (qla m hM.ok s hcl c (by omega)) qc (by (repeat' (first|exact trivial|exact Le.refl _|(refine And.intro ?_ ?_))) <;> fail) (by rfl) (by kernel_rfl) ?_)|(refine qq (fun _=>rfl) 300 (fun hg=>qla m hM.ok s hcl c (by omega)) (fun hg=>qc) (fun hg=>(by (repeat' (first|exact trivial|exact Le.refl _|exact Le.cnd hg|(refine And.intro ?_ ?_))) <;> fail)) (by rfl) (by kernel_rfl) ?_)|refine zD 300 ?_|(apply zB <;> intro hb <;> (try simp [-zd] at hb) <;> try (exfalso;omega))|refine Ob.intro ?_ ?_))
  ·have hE:L++[⟨1,0,0,c⟩,⟨2,0,0,c⟩]=qu m s m.procs.length++qay m s (c+1):=by rw [qic,← zn,hL];simp [qep, *]
   ((conv=>whnf);refine ⟨c+1,by omega,⟨⟨Le.refl _,jef hE 2,trivial⟩,⟨jee Mv.cells {} hE rfl rfl,trivial⟩⟩,⟨qa,qa⟩,?_⟩;(first|omega|(dsimp only;omega)|skip))
  ·have hE:L++[⟨1,0,0,c⟩]=qu m s m.procs.length++qay m s (c+1):=by rw [qic,← zn,hL];simp [qep, *]
   ((conv=>whnf);refine ⟨c+1,by omega,⟨⟨Le.refl _,qmp hE 2,trivial⟩,⟨qmo Mv.cells {} hE rfl,trivial⟩⟩,⟨qa,qa⟩,?_⟩;(first|omega|(dsimp only;omega)|skip))
  ·have hE:L++[⟨2,0,0,c⟩]=qu m s m.procs.length++qay m s (c+1):=by rw [qic,← zn,hL];simp [qep, *]
   ((conv=>whnf);refine ⟨c+1,by omega,⟨⟨Le.refl _,qmp hE 2,trivial⟩,⟨qmo Mv.cells {} hE rfl,trivial⟩⟩,⟨qa,qa⟩,?_⟩;(first|omega|(dsimp only;omega)|skip))
  ·have hE:L=qu m s m.procs.length++qay m s (c+1):=by rw [qic,← zn,hL];simp [qep, *]
   ((conv=>whnf);refine ⟨c+1,by omega,⟨⟨Le.refl _,qhc hE 2,trivial⟩,⟨qfj Mv.cells {} hE,trivial⟩⟩,⟨qa,qa⟩,?_⟩;(first|omega|(dsimp only;omega)|skip))
  ·obtain rfl:c=m.chans.length:=by omega
   rw [hmv,hL]
   exact Le.refl _
end Go.Proofs.YtikahnkkfkoglaaGreatDoor
end
section
namespace Go.Proofs.YtikahnkkfkoglaaGreatDoor
open Go Go.Sx Go.St
theorem qxa {m:Md} (hM:ModOk m) (s:Stt):(qp m s).length≤1000000:=by
 have h1:=qtf m hM s m.procs.length (zl _)
 have h2:=qte m s m.chans.length
 have hz:=hM.sz
 have e:qp m s=qu m s m.procs.length++(if s.holder=-1 then qay m s m.chans.length else []):=rfl
 rw [e,zg]
 split
 ·omega
 ·simp;omega
end Go.Proofs.YtikahnkkfkoglaaGreatDoor
end
section
namespace Go.Proofs.YtikahnkkfkoglaaGreatDoor
open List renaming getD_eq_getElem?_getD → zd
open Go Go.Sx Go.RowKit Go.St
set_option maxRecDepth 100000
set_option maxHeartbeats 4000000
theorem qhd {m:Md} {s:Stt} {p:Nat} {e:Ed} (h1:s.at_.getD p 0=e.frm) (h2:e.expr<0∨(val m p s e.expr).2=true):canB m s p e =
  (if e.act=2 then decide (qlen s e.chn<room m e.chn) else if e.act=3 then decide (0<qlen s e.chn) else if e.act=4 then !((if e.expr<0 then 0 else (val m p s e.expr).1) == 0) else if e.act=5 then (if e.expr<0 then 0 else (val m p s e.expr).1) == 0 else true):=by
 have h3:(decide (e.expr<0) || (val m p s e.expr).2)=true:=by
  rcases h2 with h2|h2
  ·rw [xn h2];rfl
  ·rw [h2,Bool.or_true]
 unfold canB
 rw [beq_iff_eq.2 h1,h3];rfl
theorem jeh (m:Md) (hm:MOk m) (s:Stt) (hf:fitsB m s=true) (p:Nat) (hp:p<m.procs.length) (e:Ed) {pl:Int} (he:EdOk m.tree.length m.vars.length m.chans.length pl e) :
  Con Tryz.prog 27 [m.av,s.av,iv p,.agg e.cells] (.bool (canB m s p e)):=by
 have hso:=qkv hm hf
 have hat:s.at_.length=m.procs.length:=((jn m s).1 hf).1.1
 have hcl:=hso.cl
 have hch:=he.chn
 have hac:=he.act
 have hex:e.expr<m.tree.length:=by
  have h1:=he.ex
  have h2:=he.nex
  by_cases h:e.act=1∨e.act=2∨e.act=4∨e.act=5
  ·exact (h1 h).2
  ·have:=h2 (by omega);omega
 refine zK {} 300 Tryz.func27 (fun c0 rdb=>?_)
 (repeat' ((conv=>whnf);first|refine zO ?_|refine Ob.auto ?_|refine zC 300 (qhx m hm p s hso m.tree.length e.expr (by omega) (by omega) (Nat.sub_le _ _)) ?_|refine zD 300 ?_|(apply zB <;> intro hb <;> (try simp [-zd] at hb) <;> try (exfalso;omega))))
 all_goals refine Le.of_eq (congrArg AV.bool ?_)
 ·unfold canB val
  rcases hb with hb|hb
  ·rw [beq_eq_false_iff_ne.2 hb];try rfl
  ·rw [hb,Bool.or_false,zau (by omega),Bool.and_false];try rfl
 ·have hA:s.at_.getD p 0=e.frm∧(valN m p s m.tree.length e.expr).2=true:=by assumption
  rw [qhd hA.1 (.inr hA.2),zb (by assumption)];try rfl
 ·have hA:s.at_.getD p 0=e.frm∧(valN m p s m.tree.length e.expr).2=true:=by assumption
  rw [qhd hA.1 (.inr hA.2),za (by assumption),zb (by assumption)];try rfl
 ·have hA:s.at_.getD p 0=e.frm∧(valN m p s m.tree.length e.expr).2=true:=by assumption
  rw [qhd hA.1 (.inr hA.2),za (by assumption),za (by assumption),zb (by assumption),za (by omega)];try rfl
 ·have hA:s.at_.getD p 0=e.frm∧(valN m p s m.tree.length e.expr).2=true:=by assumption
  rw [qhd hA.1 (.inr hA.2),za (by assumption),za (by assumption),za (by assumption),zb (by assumption),za (by omega)];try rfl
 ·have hA:s.at_.getD p 0=e.frm∧(valN m p s m.tree.length e.expr).2=true:=by assumption
  rw [qhd hA.1 (.inr hA.2),za (by assumption),za (by assumption),za (by assumption),za (by assumption)]
 ·unfold canB
  rw [beq_eq_false_iff_ne.2 hb];try rfl
 ·have hA:s.at_.getD p 0=e.frm:=by assumption
  rw [qhd hA (.inl (by assumption)),zb (by assumption)];try rfl
 ·have hA:s.at_.getD p 0=e.frm:=by assumption
  rw [qhd hA (.inl (by assumption)),za (by assumption),zb (by assumption)];try rfl
 ·have hA:s.at_.getD p 0=e.frm:=by assumption
  rw [qhd hA (.inl (by assumption)),za (by assumption),za (by assumption),zb (by assumption),zb (by assumption)];try rfl
 ·have hA:s.at_.getD p 0=e.frm:=by assumption
  rw [qhd hA (.inl (by assumption)),za (by assumption),za (by assumption),za (by assumption),zb (by assumption),zb (by assumption)];try rfl
 ·have hA:s.at_.getD p 0=e.frm:=by assumption
  rw [qhd hA (.inl (by assumption)),za (by assumption),za (by assumption),za (by assumption),za (by assumption)]
theorem qpp (m:Md) (hM:ModOk m) (s:Stt) (hf:fitsB m s=true) (p:Nat) (hp:p<m.procs.length) :
  Con Tryz.prog 31 [m.av,s.av,iv p] (.bool (qoy m s p)):=by
 have hn:=(hM.psz _ (qk m.procs p pr0 hp)).1
 refine zK {} 300 Tryz.func31 (fun c0 rdb=>?_)
 ((conv=>whnf);refine qm (fun _=>rfl) 300 1 (fun i:Nat=>[(7,iv i),(6,.bool false)]) (fun _=>[]) (fun i=>i≤(qo m p).length∧∀ j,j<i→canB m s p ((qo m p).getD j ed0)=false) (fun i=>(qo m p).length - i) (0) (⟨zv _,fun j hj=>absurd hj (zh j)⟩) qa qa (fun _=>rfl) (by kernel_rfl) ?_;(conv=>whnf))
 intro i hi
 (repeat' ((conv=>whnf);first|refine zA ?_|refine Ob.auto ?_|(refine CallY.con (jeh m hM.ok s hf p hp ((qo m p).getD i ed0) (edOk hM hp (by exact hb))) (by rfl) leA ?_)|(refine zQ 300 ?_)|(apply zB <;> intro hb <;> (try simp [-zd] at hb) <;> try (exfalso;omega))))
 ·have hil:i<(qo m p).length:=by assumption
  exact Le.of_eq (congrArg AV.bool (List.any_eq_true.2 ⟨_,qk _ _ _ hil,by assumption⟩).symm)
 ·have hil:i<(qo m p).length:=by assumption
  ((conv=>whnf);refine ⟨i+1,⟨hil,qaf hi.2 (by assumption)⟩,⟨qa,qa⟩,⟨qa,qa⟩,?_⟩;(first|omega|(dsimp only;omega)|skip))
 ·have hil:(qo m p).length≤i:=by assumption
  refine Le.of_eq (congrArg AV.bool ?_)
  unfold qoy
  rw [Eq.comm,List.any_eq_false]
  intro e hme
  obtain ⟨j,hj,rfl⟩:=List.mem_iff_getElem.1 hme
  have:=hi.2 j (by omega)
  rw [zd,ze hj] at this
  simp only [zag] at this
  rw [this];decide
end Go.Proofs.YtikahnkkfkoglaaGreatDoor
end
