/- Some texts of the library, one behind the other. -/
import Derived.Test.YtcfllgdfhfcicaaGreatDoorQ26
import Derived.Test.YtcfllgdfhfcicaaGreatDoorQ28
import Derived.Test.YtcfllgdfhfcicaaGreatDoorQ24
import Derived.Test.YtcfllgdfhfcicaaGreatDoorQ27
import Derived.Test.YtcfllgdfhfcicaaGreatDoorQ2
set_option linter.unusedSimpArgs false
set_option linter.unusedVariables false
section
namespace Go.Proofs.YtcfllgdfhfcicaaGreatDoor
open List renaming getD_eq_getElem?_getD → zd
open Go Go.Sx Go.RowKit Go.St
set_option maxRecDepth 100000
set_option maxHeartbeats 4000000
theorem jum (A B:List Ev) (c:Int):∃ r,ju (A++B) c=ju A c++r:=by
 unfold ju
 rw [zg,List.range_add,zbn]
 refine ⟨_,congrArg (·++_) (List.filter_congr fun j hj=>?_)⟩
 rw [qgh _ _ _ (List.mem_range.1 hj)]
theorem jfs {E:List Ev} {i:Nat} (h:i<E.length):E.take (i+1)=E.take i++[E.getD i {}]:=by
 rw [zbc,ze h,zd,ze h];rfl
theorem jft {E:List Ev} {i:Nat} (h:i<E.length) (c:Int):jh (E.take (i+1)) c=jh (E.take i) c+(if isTake c (E.getD i {})=true then 1 else 0):=by
 rw [jfs h,qsh]
theorem qxo {E:List Ev} {i:Nat} (h:i<E.length) (c:Int):ju (E.take (i+1)) c=ju (E.take i) c++(if qcl c (E.getD i {})=true then [i] else []):=by
 rw [jfs h,qsg,xb,zbv (Nat.le_of_lt h)]
theorem jun {E:List Ev} {c:Int} {i:Nat} (h:i<E.length) (hp:qcl c (E.getD i {})=true) (hg:(ju (E.take i) c).length=jh E c):jm E c=i:=by
 obtain ⟨r,hr⟩:=jum (E.take (i+1)) (E.drop (i+1)) c
 rw [List.take_append_drop,qxo h,zb hp,zz] at hr
 unfold jm
 rw [hr,zp (by omega),hg,xw]
 rfl
theorem juo {E:List Ev} {c:Int} (hg:(ju E c).length≤jh E c):jm E c=-1:=by
 unfold jm
 rw [zy hg]
theorem jfu (E:List Ev) (hE:E.length≤1000000) (c:Int):Con Tryz.prog 34 [evsV E,iv c] (iv (jm E c)):=by
 refine zK {} 300 Tryz.func34 (fun c0 rdb=>?_)
 have hgl:∀ i,jh (E.take i) c≤i:=fun i=>by
  have h1:=List.countP_le_length (p:=isTake c) (l:=E.take i)
  rw [xb] at h1
  unfold jh
  omega
 ((conv=>whnf);refine qn (fun _=>rfl) 300 1 (fun i:Nat=>[(6,iv i),(5,iv (jh (E.take i) c))]) (fun _=>[]) (fun i=>i≤E.length) (fun i=>E.length - i) (0) (zv _) qa qa (fun _=>rfl) (by kernel_rfl) ?_;(conv=>whnf))
 intro i hi
 have hgi:=hgl i
 (repeat' ((conv=>whnf);first|refine Ob.auto ?_|(apply zB <;> intro hb <;> (try simp [-zd] at hb) <;> try (exfalso;omega))))
 ·have hb1:i<E.length:=by assumption
  have e:=jft hb1 c
  have ht:isTake c (E.getD i {})=true:=zn hb
  rw [zb ht] at e
  ((conv=>whnf);refine ⟨i+1,hb1,⟨⟨Le.refl _,Le.of_eq (congrArg (AV.int _) (by rw [e];rfl)),trivial⟩,qa⟩,⟨qa,qa⟩,?_⟩;(first|omega|(dsimp only;omega)|skip))
 ·have hb1:i<E.length:=by assumption
  have e:=jft hb1 c
  rw [za (by unfold isTake;rw [xe];rintro ⟨h1,h2|h2⟩;exact (hb h1).1 h2;exact (hb h1).2 h2)] at e
  ((conv=>whnf);refine ⟨i+1,hb1,⟨⟨Le.refl _,Le.of_eq (congrArg (AV.int _) (by rw [e];rfl)),trivial⟩,qa⟩,⟨qa,qa⟩,?_⟩;(first|omega|(dsimp only;omega)|skip))
 obtain rfl:i=E.length:=by omega
 rw [zaq] at hgi ⊢
 have hpl:∀ i,(ju (E.take i) c).length≤i:=fun i=>by
  have h1:=zaf (fun j=>qcl c ((E.take i).getD j {})) (List.range (E.take i).length)
  rw [zbu] at h1
  have h2:(E.take i).length≤i:=by rw [xb];omega
  exact xa h1 h2
 ((conv=>whnf);refine qn (fun _=>rfl) 300 2 (fun i:Nat=>[(7,iv i),(5,iv ((jh E c:Int) - (ju (E.take i) c).length))]) (fun _=>[]) (fun i=>i≤E.length∧(ju (E.take i) c).length≤jh E c) (fun i=>E.length - i) (0) (⟨zv _,zv _⟩) qa qa (fun _=>rfl) (by kernel_rfl) ?_;(conv=>whnf))
 intro i hi
 have hpi:=hpl i
 (repeat' ((conv=>whnf);first|refine Ob.auto ?_|(apply zB <;> intro hb <;> (try simp [-zd] at hb) <;> try (exfalso;omega))))
 ·have hil:i<E.length:=by assumption
  have hp:qcl c (E.getD i {})=true:=zn (by assumption)
  rw [jun hil hp (by omega)]
  exact Le.refl _
 ·have hil:i<E.length:=by assumption
  have hp:qcl c (E.getD i {})=true:=zn (by assumption)
  have e:=qxo hil c
  rw [zb hp] at e
  have el:=congrArg List.length e
  rw [zg,zr] at el
  ((conv=>whnf);refine ⟨i+1,⟨hil,by omega⟩,⟨⟨Le.refl _,Le.of_eq (congrArg (AV.int _) (by rw [el];omega)),trivial⟩,qa⟩,⟨qa,qa⟩,?_⟩;(first|omega|(dsimp only;omega)|skip))
 ·have hil:i<E.length:=by assumption
  have e:=qxo hil c
  rw [za (by unfold qcl;rw [xe];rintro ⟨h1,h2|h2⟩;exact (hb h1).1 h2;exact (hb h1).2 h2),zaa] at e
  ((conv=>whnf);refine ⟨i+1,⟨hil,by rw [e];exact hi.2⟩,⟨⟨Le.refl _,Le.of_eq (congrArg (AV.int _) (by rw [e])),trivial⟩,qa⟩,⟨qa,qa⟩,?_⟩;(first|omega|(dsimp only;omega)|skip))
 ·obtain rfl:i=E.length:=by omega
  have:=hi.2
  rw [zaq] at this
  rw [juo this]
  exact Le.refl _
theorem jup {a b:Ev} (h:a.kind=b.kind∧a.mv=b.mv∧a.prc=b.prc∧a.ch=b.ch∧a.msg=b.msg∧a.frm=b.frm):a=b:=by
 cases a;cases b;simp_all
theorem juq (a b:List Ev) (ha:a.length≤1000000):Con Tryz.prog 16 [evsV a,evsV b] (.bool (decide (a=b))):=by
 refine zK {} 300 Tryz.func16 (fun c0 rdb=>?_)
 (repeat' ((conv=>whnf);first|refine Ob.auto ?_|(apply zB <;> intro hb <;> (try simp [-zd] at hb) <;> try (exfalso;omega))))
 ·refine Le.of_eq (congrArg AV.bool ?_)
  exact (xu (fun h=>by subst h;simp at hb)).symm
 ·((conv=>whnf);refine qn (fun _=>rfl) 300 1 (fun i:Nat=>[(5,iv i)]) (fun _=>[]) (fun i=>i≤a.length∧∀ j,j<i→a.getD j {}=b.getD j {}) (fun i=>a.length - i) (0) (⟨by omega,fun j hj=>absurd hj (zh j)⟩) qa qa (fun _=>rfl) (by kernel_rfl) ?_;(conv=>whnf))
  intro i hi
  (repeat' ((conv=>whnf);first|refine zO ?_|refine Ob.auto ?_|refine zD 300 ?_|(apply zB <;> intro hb <;> (try simp [-zd] at hb) <;> try (exfalso;omega))))
  ·refine Le.of_eq (congrArg AV.bool ?_)
   exact (xu (fun h=>by subst h;simp at hb)).symm
  ·((conv=>whnf);refine ⟨i+1,⟨by omega,qae hi.2 (jup hb)⟩,⟨qa,qa⟩,⟨qa,qa⟩,?_⟩;(first|omega|(dsimp only;omega)|skip))
  ·refine Le.of_eq (congrArg AV.bool ?_)
   exact (zn (jpn {} (by omega) (fun j hj=>hi.2 j (by omega)))).symm
theorem qhj {m:Md} {s:Stt} {p:Nat} {e:Ed} (h1:s.at_.getD p 0=e.frm) (h2:e.expr<0∨(val m p s e.expr).2=true):canB m s p e =
  (if e.act=2 then decide (qlen s e.chn<room m e.chn) else if e.act=3 then decide (0<qlen s e.chn) else if e.act=4 then !((if e.expr<0 then 0 else (val m p s e.expr).1) == 0) else if e.act=5 then (if e.expr<0 then 0 else (val m p s e.expr).1) == 0 else true):=by
 have h3:(decide (e.expr<0) || (val m p s e.expr).2)=true:=by
  rcases h2 with h2|h2
  ·rw [zn h2];rfl
  ·rw [h2,Bool.or_true]
 unfold canB
 rw [beq_iff_eq.2 h1,h3];rfl
theorem jfv (m:Md) (hm:MOk m) (s:Stt) (hf:ql m s=true) (p:Nat) (hp:p<m.procs.length) (e:Ed) {pl:Int} (he:EdOk m.tree.length m.vars.length m.chans.length pl e) :
  Con Tryz.prog 54 [m.av,s.av,iv p,.agg e.cells] (.bool (canB m s p e)):=by
 have hso:=qoy hm hf
 have hat:s.at_.length=m.procs.length:=((jb m s).1 hf).1.1
 have hcl:=hso.cl
 have hch:=he.chn
 have hac:=he.act
 have hex:e.expr<m.tree.length:=by
  have h1:=he.ex
  have h2:=he.nex
  by_cases h:e.act=1∨e.act=2∨e.act=4∨e.act=5
  ·exact (h1 h).2
  ·have:=h2 (by omega);omega
 refine zK {} 300 Tryz.func54 (fun c0 rdb=>?_)
 (repeat' ((conv=>whnf);first|refine zO ?_|refine Ob.auto ?_|refine zC 300 (qxj m hm p s hso m.tree.length e.expr (by omega) (by omega) (Nat.sub_le _ _)) ?_|refine zD 300 ?_|(apply zB <;> intro hb <;> (try simp [-zd] at hb) <;> try (exfalso;omega))))
 all_goals refine Le.of_eq (congrArg AV.bool ?_)
 ·unfold canB val
  rcases hb with hb|hb
  ·rw [beq_eq_false_iff_ne.2 hb];try rfl
  ·rw [hb,Bool.or_false,xu (by omega),Bool.and_false];try rfl
 ·have hA:s.at_.getD p 0=e.frm∧(valN m p s m.tree.length e.expr).2=true:=by assumption
  rw [qhj hA.1 (.inr hA.2),zb (by assumption)];try rfl
 ·have hA:s.at_.getD p 0=e.frm∧(valN m p s m.tree.length e.expr).2=true:=by assumption
  rw [qhj hA.1 (.inr hA.2),za (by assumption),zb (by assumption)];try rfl
 ·have hA:s.at_.getD p 0=e.frm∧(valN m p s m.tree.length e.expr).2=true:=by assumption
  rw [qhj hA.1 (.inr hA.2),za (by assumption),za (by assumption),zb (by assumption),za (by omega)];try rfl
 ·have hA:s.at_.getD p 0=e.frm∧(valN m p s m.tree.length e.expr).2=true:=by assumption
  rw [qhj hA.1 (.inr hA.2),za (by assumption),za (by assumption),za (by assumption),zb (by assumption),za (by omega)];try rfl
 ·have hA:s.at_.getD p 0=e.frm∧(valN m p s m.tree.length e.expr).2=true:=by assumption
  rw [qhj hA.1 (.inr hA.2),za (by assumption),za (by assumption),za (by assumption),za (by assumption)]
 ·unfold canB
  rw [beq_eq_false_iff_ne.2 hb];try rfl
 ·have hA:s.at_.getD p 0=e.frm:=by assumption
  rw [qhj hA (.inl (by assumption)),zb (by assumption)];try rfl
 ·have hA:s.at_.getD p 0=e.frm:=by assumption
  rw [qhj hA (.inl (by assumption)),za (by assumption),zb (by assumption)];try rfl
 ·have hA:s.at_.getD p 0=e.frm:=by assumption
  rw [qhj hA (.inl (by assumption)),za (by assumption),za (by assumption),zb (by assumption),zb (by assumption)];try rfl
 ·have hA:s.at_.getD p 0=e.frm:=by assumption
  rw [qhj hA (.inl (by assumption)),za (by assumption),za (by assumption),za (by assumption),zb (by assumption),zb (by assumption)];try rfl
 ·have hA:s.at_.getD p 0=e.frm:=by assumption
  rw [qhj hA (.inl (by assumption)),za (by assumption),za (by assumption),za (by assumption),za (by assumption)]
theorem qpc (m:Md) (hM:ModOk m) (s:Stt) (hf:ql m s=true) (p:Nat) (hp:p<m.procs.length) :
  Con Tryz.prog 58 [m.av,s.av,iv p] (.bool (qor m s p)):=by
 have hn:=(hM.psz _ (qe m.procs p pr0 hp)).1
 refine zK {} 300 Tryz.func58 (fun c0 rdb=>?_)
 ((conv=>whnf);refine qn (fun _=>rfl) 300 1 (fun i:Nat=>[(7,iv i),(6,.bool false)]) (fun _=>[]) (fun i=>i≤(edgesOf m p).length∧∀ j,j<i→canB m s p ((edgesOf m p).getD j ed0)=false) (fun i=>(edgesOf m p).length - i) (0) (⟨zv _,fun j hj=>absurd hj (zh j)⟩) qa qa (fun _=>rfl) (by kernel_rfl) ?_;(conv=>whnf))
 intro i hi
 (repeat' ((conv=>whnf);first|refine zA ?_|refine Ob.auto ?_|(refine CallY.con (jfv m hM.ok s hf p hp ((edgesOf m p).getD i ed0) (edOk hM hp (by exact hb))) (by rfl) leA ?_)|(refine zQ 300 ?_)|(apply zB <;> intro hb <;> (try simp [-zd] at hb) <;> try (exfalso;omega))))
 ·have hil:i<(edgesOf m p).length:=by assumption
  exact Le.of_eq (congrArg AV.bool (List.any_eq_true.2 ⟨_,qe _ _ _ hil,by assumption⟩).symm)
 ·have hil:i<(edgesOf m p).length:=by assumption
  ((conv=>whnf);refine ⟨i+1,⟨hil,qae hi.2 (by assumption)⟩,⟨qa,qa⟩,⟨qa,qa⟩,?_⟩;(first|omega|(dsimp only;omega)|skip))
 ·have hil:(edgesOf m p).length≤i:=by assumption
  refine Le.of_eq (congrArg AV.bool ?_)
  unfold qor
  rw [Eq.comm,List.any_eq_false]
  intro e hme
  obtain ⟨j,hj,rfl⟩:=List.mem_iff_getElem.1 hme
  have:=hi.2 j (by omega)
  rw [zd,ze hj] at this
  simp only [zai] at this
  rw [this];decide
theorem qsl (m:Md) (s:Stt) (c:Nat):qii m s c=(if (m.chans.getD c ch0).lossy=true∧0<(s.chans.getD c []).length then [⟨1,0,0,c⟩] else [])++(if ((m.chans.getD c ch0).copying=true∧0<(s.chans.getD c []).length)∧((s.chans.getD c []).length:Int)<(m.chans.getD c ch0).room then [⟨2,0,0,c⟩] else []):=by
 unfold qii qjn qih qlen room
 simp only [zu,zf,xe,Int.natCast_pos]
theorem jfw (m:Md) (hM:ModOk m) (s:Stt) (hf:ql m s=true):Con Tryz.prog 31 [m.av,s.av] (qez (qap m s)):=by
 have hs:=qck hM hf
 have h0:=((jb m s).1 hf).1
 have hz:=hM.sz
 have hpl:=qxn m hM s
 have hcl:=h0.2.2.1
 have hpz:=hM.psz
 have hh:=h0.2.2.2.1
 refine zK {owns:=[(5,(54,4))]} 300 Tryz.func31 (fun c0 rdb=>?_)
 ((conv=>whnf);refine qn (fun _=>rfl) 300 1 (fun i:Nat=>[(6,iv i),(5,.own 2 0 0 (jz m s i).length)]) (fun i=>[(2,.row [] 54 4 0 (jz m s i).length (encL Mv.cells {} (jz m s i)))]) (fun i=>i≤m.procs.length) (fun i=>m.procs.length - i) (0) (zv _) qa ⟨qau (fun k hk=>absurd hk (zh k)),trivial⟩ (fun _=>rfl) (by kernel_rfl) ?_;(conv=>whnf))
 intro i hi
 have hpi:=hpl i hi
 (repeat' ((conv=>whnf);first|refine Ob.auto ?_|(apply zB <;> intro hb <;> (try simp [-zd] at hb) <;> try (exfalso;omega))))
 ·have hp1:jz m s (i+1)=jz m s i:=by rw [qxl,zb ⟨by omega,by omega⟩,zaa]
  ((conv=>whnf);refine ⟨i+1,by omega,⟨⟨Le.refl _,qjp hp1.symm 2,trivial⟩,⟨qjo Mv.cells {} hp1.symm,trivial⟩⟩,⟨qa,qa⟩,?_⟩;(first|omega|(dsimp only;omega)|skip))
 ·have hp1:jz m s (i+1)=jz m s i++qjm m s i:=by rw [qxl,za (fun h=>by omega)]
  have hil:i<m.procs.length:=by assumption
  have hpe:=(hpz _ (qe m.procs i pr0 hil)).1
  have hel:(edgesOf m i).length≤40000:=hpe
  have he0:jz m s i++qen m s i 0=jz m s i:=zaa _
  ((conv=>whnf);refine qn (fun _=>rfl) 300 2 (fun j:Nat=>[(7,iv j),(5,.own 2 0 0 (jz m s i++qen m s i j).length)]) (fun j=>[(2,.row [] 54 4 0 (jz m s i++qen m s i j).length (encL Mv.cells {} (jz m s i++qen m s i j)))]) (fun j=>j≤(edgesOf m i).length) (fun j=>(edgesOf m i).length - j) (0) (zv _) ⟨Le.refl _,qjp he0.symm 2,trivial⟩ ⟨qjo Mv.cells {} he0.symm,trivial⟩ (fun _=>rfl) (by kernel_rfl) ?_;(conv=>whnf))
  intro j hj
  have hen:=jfr m s i j
  have hsum:(jz m s i++qen m s i j).length≤200000:=by rw [zg];omega
  generalize hL:jz m s i++qen m s i j=L at hsum ⊢
  (repeat' ((conv=>whnf);first|refine Ob.auto ?_|(apply zB <;> intro hb <;> (try simp [-zd] at hb) <;> try (exfalso;omega))))
  ·have hjl:j<(edgesOf m i).length:=by assumption
   ((conv=>whnf);refine zQ 300 ?_)
   (repeat' ((conv=>whnf);first|refine zA ?_|refine Ob.auto ?_|(refine CallY.con (jfv m hM.ok s hf i hil ((edgesOf m i).getD j ed0) (edOk hM hil hjl)) (by rfl) leA ?_)|(apply zB <;> intro hb <;> (try simp [-zd] at hb) <;> try (exfalso;omega))))
   ·have hE:L++[⟨0,i,j,0⟩]=jz m s i++qen m s i (j+1):=by rw [jfq,zb hb,← zz,hL]
    ((conv=>whnf);refine ⟨j+1,hjl,⟨⟨Le.refl _,qfp hE 2,trivial⟩,⟨qeo Mv.cells {} hE rfl,trivial⟩⟩,⟨qa,qa⟩,?_⟩;(first|omega|(dsimp only;omega)|skip))
   ·have hE:L=jz m s i++qen m s i (j+1):=by rw [jfq,za (by rw [hb];decide),zaa,hL]
    ((conv=>whnf);refine ⟨j+1,hjl,⟨⟨Le.refl _,qjp hE 2,trivial⟩,⟨qjo Mv.cells {} hE,trivial⟩⟩,⟨qa,qa⟩,?_⟩;(first|omega|(dsimp only;omega)|skip))
  ·have hjl:(edgesOf m i).length≤j:=by assumption
   obtain rfl:j=(edgesOf m i).length:=by omega
   rw [jui,← hp1] at hL
   ((conv=>whnf);refine ⟨i+1,hil,⟨⟨Le.refl _,qjp hL.symm 2,trivial⟩,⟨qjo Mv.cells {} hL.symm,trivial⟩⟩,⟨qa,qa⟩,?_⟩;(first|omega|(dsimp only;omega)|skip))
 ·obtain rfl:i=m.procs.length:=by omega
  have he0:jz m s m.procs.length++qdf m s 0=jz m s m.procs.length:=zaa _
  ((conv=>whnf);refine qn (fun _=>rfl) 300 2 (fun c:Nat=>[(8,iv c),(5,.own 2 0 0 (jz m s m.procs.length++qdf m s c).length)]) (fun c=>[(2,.row [] 54 4 0 (jz m s m.procs.length++qdf m s c).length (encL Mv.cells {} (jz m s m.procs.length++qdf m s c)))]) (fun c=>c≤m.chans.length∧(s.holder=-1∨c=0)) (fun c=>m.chans.length - c) (0) (⟨zv _,.inr rfl⟩) ⟨Le.refl _,qjp he0.symm 2,trivial⟩ ⟨qjo Mv.cells {} he0.symm,trivial⟩ (fun _=>rfl) (by kernel_rfl) ?_;(conv=>whnf))
  rintro c ⟨hc,hc2⟩
  have hcn:=qxm m s c
  have hsum:(jz m s m.procs.length++qdf m s c).length≤200000:=by rw [zg];omega
  generalize hL:jz m s m.procs.length++qdf m s c=L at hsum ⊢
  (repeat' ((conv=>whnf);first|refine Ob.auto ?_|(apply zB <;> intro hb <;> (try simp [-zd] at hb) <;> try (exfalso;omega))))
  ·have hE:L++[⟨1,0,0,c⟩,⟨2,0,0,c⟩]=jz m s m.procs.length++qdf m s (c+1):=by rw [qpb,← zz,hL];rw [qsl,zb (by assumption),zb (by assumption)];rfl
   ((conv=>whnf);refine ⟨c+1,⟨by omega,.inl (by omega)⟩,⟨⟨Le.refl _,jul hE 2,trivial⟩,⟨juk Mv.cells {} hE rfl rfl,trivial⟩⟩,⟨qa,qa⟩,?_⟩;(first|omega|(dsimp only;omega)|skip))
  ·have hE:L++[⟨1,0,0,c⟩]=jz m s m.procs.length++qdf m s (c+1):=by rw [qpb,← zz,hL];rw [qsl,zb (by assumption),za (fun h=>by have:=(by assumption:(m.chans.getD c ch0).copying=true→0<(s.chans.getD c []).length→(m.chans.getD c ch0).room≤((s.chans.getD c []).length:Int)) h.1.1 h.1.2;omega)];rfl
   ((conv=>whnf);refine ⟨c+1,⟨by omega,.inl (by omega)⟩,⟨⟨Le.refl _,qfp hE 2,trivial⟩,⟨qeo Mv.cells {} hE rfl,trivial⟩⟩,⟨qa,qa⟩,?_⟩;(first|omega|(dsimp only;omega)|skip))
  ·have hE:L++[⟨2,0,0,c⟩]=jz m s m.procs.length++qdf m s (c+1):=by rw [qpb,← zz,hL];rw [qsl,za (fun h=>by have e:=(by assumption:(m.chans.getD c ch0).lossy=true→s.chans.getD c []=[]) h.1;rw [e] at h;exact absurd h.2 (zbi 0)),zb (by assumption)];rfl
   ((conv=>whnf);refine ⟨c+1,⟨by omega,.inl (by omega)⟩,⟨⟨Le.refl _,qfp hE 2,trivial⟩,⟨qeo Mv.cells {} hE rfl,trivial⟩⟩,⟨qa,qa⟩,?_⟩;(first|omega|(dsimp only;omega)|skip))
  ·have hE:L=jz m s m.procs.length++qdf m s (c+1):=by rw [qpb,← zz,hL];rw [qsl,za (fun h=>by have e:=(by assumption:(m.chans.getD c ch0).lossy=true→s.chans.getD c []=[]) h.1;rw [e] at h;exact absurd h.2 (zbi 0)),za (fun h=>by have:=(by assumption:(m.chans.getD c ch0).copying=true→0<(s.chans.getD c []).length→(m.chans.getD c ch0).room≤((s.chans.getD c []).length:Int)) h.1.1 h.1.2;omega)];simp
   ((conv=>whnf);refine ⟨c+1,⟨by omega,.inl (by omega)⟩,⟨⟨Le.refl _,qjp hE 2,trivial⟩,⟨qjo Mv.cells {} hE,trivial⟩⟩,⟨qa,qa⟩,?_⟩;(first|omega|(dsimp only;omega)|skip))
  ·have hmv:qap m s=jz m s m.procs.length++qdf m s c:=by
    unfold qap
    by_cases hho:s.holder=-1
    ·obtain rfl:c=m.chans.length:=by omega
     rw [zb hho];rfl
    ·obtain rfl:c=0:=hc2.resolve_left hho
     rw [za hho];rfl
   rw [hmv,hL]
   exact Le.refl _
end Go.Proofs.YtcfllgdfhfcicaaGreatDoor
end
section
namespace Go.Proofs.YtcfllgdfhfcicaaGreatDoor
open Go Go.Sx Go.RowKit Go.St
set_option maxRecDepth 100000
set_option maxHeartbeats 4000000
theorem jur {a b:Mv} (h:a.kind=b.kind∧a.proc=b.proc∧a.edge=b.edge∧a.chn=b.chn):a=b:=by
 cases a;cases b;simp_all
end Go.Proofs.YtcfllgdfhfcicaaGreatDoor
end
