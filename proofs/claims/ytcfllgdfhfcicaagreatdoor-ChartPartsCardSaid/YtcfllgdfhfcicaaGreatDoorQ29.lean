/- Some texts of the library, one behind the other. -/
import Derived.Test.YtcfllgdfhfcicaaGreatDoorQ26
import Derived.Test.YtcfllgdfhfcicaaGreatDoorQ28
import Derived.Test.YtcfllgdfhfcicaaGreatDoorQ24
import Derived.Test.YtcfllgdfhfcicaaGreatDoorQ27
import Derived.Test.YtcfllgdfhfcicaaGreatDoorQ2
set_option linter.unusedSimpArgs false
set_option linter.unusedVariables false
section
namespace Go.Proofs.YtcfllgdfhfcicaaGreatDoor
open List renaming getD_eq_getElem?_getD → zd
open Go Go.Sx Go.RowKit Go.St
set_option maxRecDepth 100000
set_option maxHeartbeats 4000000
theorem juk (A B:List Ev) (c:Int):∃ r,jt (A++B) c=jt A c++r:=by
 unfold jt
 rw [zg,List.range_add,zbo]
 refine ⟨_,congrArg (·++_) (List.filter_congr fun j hj=>?_)⟩
 rw [qgd _ _ _ (List.mem_range.1 hj)]
theorem jfv {E:List Ev} {i:Nat} (h:i<E.length):E.take (i+1)=E.take i++[E.getD i {}]:=by
 rw [zbc,ze h,zd,ze h];rfl
theorem jfw {E:List Ev} {i:Nat} (h:i<E.length) (c:Int):jh (E.take (i+1)) c=jh (E.take i) c+(if isTake c (E.getD i {})=true then 1 else 0):=by
 rw [jfv h,qsg]
theorem qxk {E:List Ev} {i:Nat} (h:i<E.length) (c:Int):jt (E.take (i+1)) c=jt (E.take i) c++(if qck c (E.getD i {})=true then [i] else []):=by
 rw [jfv h,qsf,zw,zbw (Nat.le_of_lt h)]
theorem jul {E:List Ev} {c:Int} {i:Nat} (h:i<E.length) (hp:qck c (E.getD i {})=true) (hg:(jt (E.take i) c).length=jh E c):jo E c=i:=by
 obtain ⟨r,hr⟩:=juk (E.take (i+1)) (E.drop (i+1)) c
 rw [List.take_append_drop,qxk h,zb hp,zy] at hr
 unfold jo
 rw [hr,zt (by omega),hg,xv]
 rfl
theorem jum {E:List Ev} {c:Int} (hg:(jt E c).length≤jh E c):jo E c=-1:=by
 unfold jo
 rw [xe hg]
theorem jun (E:List Ev) (hE:E.length≤1000000) (c:Int):Con Tryz.prog 34 [evsV E,iv c] (iv (jo E c)):=by
 refine zK {} 300 Tryz.func34 (fun c0 rdb=>?_)
 have hgl:∀ i,jh (E.take i) c≤i:=fun i=>by
  have h1:=List.countP_le_length (p:=isTake c) (l:=E.take i)
  rw [zw] at h1
  unfold jh
  omega
 ((conv=>whnf);refine qo (fun _=>rfl) 300 1 (fun i:Nat=>[(6,iv i),(5,iv (jh (E.take i) c))]) (fun _=>[]) (fun i=>i≤E.length) (fun i=>E.length - i) (0) (zx _) qa qa (fun _=>rfl) (by kernel_rfl) ?_;(conv=>whnf))
 intro i hi
 have hgi:=hgl i
 (repeat' ((conv=>whnf);first|refine Ob.auto ?_|(apply zB <;> intro hb <;> (try simp [-zd] at hb) <;> try (exfalso;omega))))
 ·have hb1:i<E.length:=by assumption
  have e:=jfw hb1 c
  have ht:isTake c (E.getD i {})=true:=zo hb
  rw [zb ht] at e
  ((conv=>whnf);refine ⟨i+1,hb1,⟨⟨Le.refl _,Le.of_eq (congrArg (AV.int _) (by rw [e];rfl)),trivial⟩,qa⟩,⟨qa,qa⟩,?_⟩;(first|omega|(dsimp only;omega)|skip))
 ·have hb1:i<E.length:=by assumption
  have e:=jfw hb1 c
  rw [za (by unfold isTake;rw [xd];rintro ⟨h1,h2|h2⟩;exact (hb h1).1 h2;exact (hb h1).2 h2)] at e
  ((conv=>whnf);refine ⟨i+1,hb1,⟨⟨Le.refl _,Le.of_eq (congrArg (AV.int _) (by rw [e];rfl)),trivial⟩,qa⟩,⟨qa,qa⟩,?_⟩;(first|omega|(dsimp only;omega)|skip))
 obtain rfl:i=E.length:=by omega
 rw [zav] at hgi ⊢
 have hpl:∀ i,(jt (E.take i) c).length≤i:=fun i=>by
  have h1:=zag (fun j=>qck c ((E.take i).getD j {})) (List.range (E.take i).length)
  rw [zbv] at h1
  have h2:(E.take i).length≤i:=by rw [zw];omega
  exact xc h1 h2
 ((conv=>whnf);refine qo (fun _=>rfl) 300 2 (fun i:Nat=>[(7,iv i),(5,iv ((jh E c:Int) - (jt (E.take i) c).length))]) (fun _=>[]) (fun i=>i≤E.length∧(jt (E.take i) c).length≤jh E c) (fun i=>E.length - i) (0) (⟨zx _,zx _⟩) qa qa (fun _=>rfl) (by kernel_rfl) ?_;(conv=>whnf))
 intro i hi
 have hpi:=hpl i
 (repeat' ((conv=>whnf);first|refine Ob.auto ?_|(apply zB <;> intro hb <;> (try simp [-zd] at hb) <;> try (exfalso;omega))))
 ·have hil:i<E.length:=by assumption
  have hp:qck c (E.getD i {})=true:=zo (by assumption)
  rw [jul hil hp (by omega)]
  exact Le.refl _
 ·have hil:i<E.length:=by assumption
  have hp:qck c (E.getD i {})=true:=zo (by assumption)
  have e:=qxk hil c
  rw [zb hp] at e
  have el:=congrArg List.length e
  rw [zg,zq] at el
  ((conv=>whnf);refine ⟨i+1,⟨hil,by omega⟩,⟨⟨Le.refl _,Le.of_eq (congrArg (AV.int _) (by rw [el];omega)),trivial⟩,qa⟩,⟨qa,qa⟩,?_⟩;(first|omega|(dsimp only;omega)|skip))
 ·have hil:i<E.length:=by assumption
  have e:=qxk hil c
  rw [za (by unfold qck;rw [xd];rintro ⟨h1,h2|h2⟩;exact (hb h1).1 h2;exact (hb h1).2 h2),zac] at e
  ((conv=>whnf);refine ⟨i+1,⟨hil,by rw [e];exact hi.2⟩,⟨⟨Le.refl _,Le.of_eq (congrArg (AV.int _) (by rw [e])),trivial⟩,qa⟩,⟨qa,qa⟩,?_⟩;(first|omega|(dsimp only;omega)|skip))
 ·obtain rfl:i=E.length:=by omega
  have:=hi.2
  rw [zav] at this
  rw [jum this]
  exact Le.refl _
theorem qhh {m:Md} {s:Stt} {p:Nat} {e:Ed} (h1:s.at_.getD p 0=e.frm) (h2:e.expr<0∨(val m p s e.expr).2=true):canB m s p e =
  (if e.act=2 then decide (qlen s e.chn<room m e.chn) else if e.act=3 then decide (0<qlen s e.chn) else if e.act=4 then !((if e.expr<0 then 0 else (val m p s e.expr).1) == 0) else if e.act=5 then (if e.expr<0 then 0 else (val m p s e.expr).1) == 0 else true):=by
 have h3:(decide (e.expr<0) || (val m p s e.expr).2)=true:=by
  rcases h2 with h2|h2
  ·rw [zo h2];rfl
  ·rw [h2,Bool.or_true]
 unfold canB
 rw [beq_iff_eq.2 h1,h3];rfl
theorem jfx (m:Md) (hm:MOk m) (s:Stt) (hf:qm m s=true) (p:Nat) (hp:p<m.procs.length) (e:Ed) {pl:Int} (he:EdOk m.tree.length m.vars.length m.chans.length pl e) :
  Con Tryz.prog 54 [m.av,s.av,iv p,.agg e.cells] (.bool (canB m s p e)):=by
 have hso:=qow hm hf
 have hat:s.at_.length=m.procs.length:=((jg m s).1 hf).1.1
 have hcl:=hso.cl
 have hch:=he.chn
 have hac:=he.act
 have hex:e.expr<m.tree.length:=by
  have h1:=he.ex
  have h2:=he.nex
  by_cases h:e.act=1∨e.act=2∨e.act=4∨e.act=5
  ·exact (h1 h).2
  ·have:=h2 (by omega);omega
 refine zK {} 300 Tryz.func54 (fun c0 rdb=>?_)
 (repeat' ((conv=>whnf);first|refine zO ?_|refine Ob.auto ?_|refine zC 300 (qxf m hm p s hso m.tree.length e.expr (by omega) (by omega) (Nat.sub_le _ _)) ?_|refine zD 300 ?_|(apply zB <;> intro hb <;> (try simp [-zd] at hb) <;> try (exfalso;omega))))
 all_goals refine Le.of_eq (congrArg AV.bool ?_)
 ·unfold canB val
  rcases hb with hb|hb
  ·rw [beq_eq_false_iff_ne.2 hb];try rfl
  ·rw [hb,Bool.or_false,xx (by omega),Bool.and_false];try rfl
 ·have hA:s.at_.getD p 0=e.frm∧(valN m p s m.tree.length e.expr).2=true:=by assumption
  rw [qhh hA.1 (.inr hA.2),zb (by assumption)];try rfl
 ·have hA:s.at_.getD p 0=e.frm∧(valN m p s m.tree.length e.expr).2=true:=by assumption
  rw [qhh hA.1 (.inr hA.2),za (by assumption),zb (by assumption)];try rfl
 ·have hA:s.at_.getD p 0=e.frm∧(valN m p s m.tree.length e.expr).2=true:=by assumption
  rw [qhh hA.1 (.inr hA.2),za (by assumption),za (by assumption),zb (by assumption),za (by omega)];try rfl
 ·have hA:s.at_.getD p 0=e.frm∧(valN m p s m.tree.length e.expr).2=true:=by assumption
  rw [qhh hA.1 (.inr hA.2),za (by assumption),za (by assumption),za (by assumption),zb (by assumption),za (by omega)];try rfl
 ·have hA:s.at_.getD p 0=e.frm∧(valN m p s m.tree.length e.expr).2=true:=by assumption
  rw [qhh hA.1 (.inr hA.2),za (by assumption),za (by assumption),za (by assumption),za (by assumption)]
 ·unfold canB
  rw [beq_eq_false_iff_ne.2 hb];try rfl
 ·have hA:s.at_.getD p 0=e.frm:=by assumption
  rw [qhh hA (.inl (by assumption)),zb (by assumption)];try rfl
 ·have hA:s.at_.getD p 0=e.frm:=by assumption
  rw [qhh hA (.inl (by assumption)),za (by assumption),zb (by assumption)];try rfl
 ·have hA:s.at_.getD p 0=e.frm:=by assumption
  rw [qhh hA (.inl (by assumption)),za (by assumption),za (by assumption),zb (by assumption),zb (by assumption)];try rfl
 ·have hA:s.at_.getD p 0=e.frm:=by assumption
  rw [qhh hA (.inl (by assumption)),za (by assumption),za (by assumption),za (by assumption),zb (by assumption),zb (by assumption)];try rfl
 ·have hA:s.at_.getD p 0=e.frm:=by assumption
  rw [qhh hA (.inl (by assumption)),za (by assumption),za (by assumption),za (by assumption),za (by assumption)]
theorem qpa (m:Md) (hM:ModOk m) (s:Stt) (hf:qm m s=true) (p:Nat) (hp:p<m.procs.length) :
  Con Tryz.prog 58 [m.av,s.av,iv p] (.bool (qop m s p)):=by
 have hn:=(hM.psz _ (qe m.procs p pr0 hp)).1
 refine zK {} 300 Tryz.func58 (fun c0 rdb=>?_)
 ((conv=>whnf);refine qo (fun _=>rfl) 300 1 (fun i:Nat=>[(7,iv i),(6,.bool false)]) (fun _=>[]) (fun i=>i≤(edgesOf m p).length∧∀ j,j<i→canB m s p ((edgesOf m p).getD j ed0)=false) (fun i=>(edgesOf m p).length - i) (0) (⟨zx _,fun j hj=>absurd hj (zh j)⟩) qa qa (fun _=>rfl) (by kernel_rfl) ?_;(conv=>whnf))
 intro i hi
 (repeat' ((conv=>whnf);first|refine zA ?_|refine Ob.auto ?_|(refine CallY.con (jfx m hM.ok s hf p hp ((edgesOf m p).getD i ed0) (edOk hM hp (by exact hb))) (by rfl) leA ?_)|(refine zQ 300 ?_)|(apply zB <;> intro hb <;> (try simp [-zd] at hb) <;> try (exfalso;omega))))
 ·have hil:i<(edgesOf m p).length:=by assumption
  exact Le.of_eq (congrArg AV.bool (List.any_eq_true.2 ⟨_,qe _ _ _ hil,by assumption⟩).symm)
 ·have hil:i<(edgesOf m p).length:=by assumption
  ((conv=>whnf);refine ⟨i+1,⟨hil,qan hi.2 (by assumption)⟩,⟨qa,qa⟩,⟨qa,qa⟩,?_⟩;(first|omega|(dsimp only;omega)|skip))
 ·have hil:(edgesOf m p).length≤i:=by assumption
  refine Le.of_eq (congrArg AV.bool ?_)
  unfold qop
  rw [Eq.comm,List.any_eq_false]
  intro e hme
  obtain ⟨j,hj,rfl⟩:=List.mem_iff_getElem.1 hme
  have:=hi.2 j (by omega)
  rw [zd,ze hj] at this
  simp only [zae] at this
  rw [this];decide
theorem qsk (m:Md) (s:Stt) (c:Nat):qih m s c=(if (m.chans.getD c ch0).lossy=true∧0<(s.chans.getD c []).length then [⟨1,0,0,c⟩] else [])++(if ((m.chans.getD c ch0).copying=true∧0<(s.chans.getD c []).length)∧((s.chans.getD c []).length:Int)<(m.chans.getD c ch0).room then [⟨2,0,0,c⟩] else []):=by
 unfold qih qjm qig qlen room
 simp only [zu,zf,xd,Int.natCast_pos]
theorem jfy (m:Md) (hM:ModOk m) (s:Stt) (hf:qm m s=true):Con Tryz.prog 31 [m.av,s.av] (qgc (qap m s)):=by
 have hs:=qcs hM hf
 have h0:=((jg m s).1 hf).1
 have hz:=hM.sz
 have hpl:=qxj m hM s
 have hcl:=h0.2.2.1
 have hpz:=hM.psz
 have hh:=h0.2.2.2.1
 refine zK {owns:=[(5,(54,4))]} 300 Tryz.func31 (fun c0 rdb=>?_)
 ((conv=>whnf);refine qo (fun _=>rfl) 300 1 (fun i:Nat=>[(6,iv i),(5,.own 2 0 0 (jz m s i).length)]) (fun i=>[(2,.row [] 54 4 0 (jz m s i).length (encL Mv.cells {} (jz m s i)))]) (fun i=>i≤m.procs.length) (fun i=>m.procs.length - i) (0) (zx _) qa ⟨qaz (fun k hk=>absurd hk (zh k)),trivial⟩ (fun _=>rfl) (by kernel_rfl) ?_;(conv=>whnf))
 intro i hi
 have hpi:=hpl i hi
 (repeat' ((conv=>whnf);first|refine Ob.auto ?_|(apply zB <;> intro hb <;> (try simp [-zd] at hb) <;> try (exfalso;omega))))
 ·have hp1:jz m s (i+1)=jz m s i:=by rw [qxh,zb ⟨by omega,by omega⟩,zac]
  ((conv=>whnf);refine ⟨i+1,by omega,⟨⟨Le.refl _,qkx hp1.symm 2,trivial⟩,⟨qkw Mv.cells {} hp1.symm,trivial⟩⟩,⟨qa,qa⟩,?_⟩;(first|omega|(dsimp only;omega)|skip))
 ·have hp1:jz m s (i+1)=jz m s i++qjl m s i:=by rw [qxh,za (fun h=>by omega)]
  have hil:i<m.procs.length:=by assumption
  have hpe:=(hpz _ (qe m.procs i pr0 hil)).1
  have hel:(edgesOf m i).length≤40000:=hpe
  have he0:jz m s i++qem m s i 0=jz m s i:=zac _
  ((conv=>whnf);refine qo (fun _=>rfl) 300 2 (fun j:Nat=>[(7,iv j),(5,.own 2 0 0 (jz m s i++qem m s i j).length)]) (fun j=>[(2,.row [] 54 4 0 (jz m s i++qem m s i j).length (encL Mv.cells {} (jz m s i++qem m s i j)))]) (fun j=>j≤(edgesOf m i).length) (fun j=>(edgesOf m i).length - j) (0) (zx _) ⟨Le.refl _,qkx he0.symm 2,trivial⟩ ⟨qkw Mv.cells {} he0.symm,trivial⟩ (fun _=>rfl) (by kernel_rfl) ?_;(conv=>whnf))
  intro j hj
  have hen:=jfu m s i j
  have hsum:(jz m s i++qem m s i j).length≤200000:=by rw [zg];omega
  generalize hL:jz m s i++qem m s i j=L at hsum ⊢
  (repeat' ((conv=>whnf);first|refine Ob.auto ?_|(apply zB <;> intro hb <;> (try simp [-zd] at hb) <;> try (exfalso;omega))))
  ·have hjl:j<(edgesOf m i).length:=by assumption
   ((conv=>whnf);refine zQ 300 ?_)
   (repeat' ((conv=>whnf);first|refine zA ?_|refine Ob.auto ?_|(refine CallY.con (jfx m hM.ok s hf i hil ((edgesOf m i).getD j ed0) (edOk hM hil hjl)) (by rfl) leA ?_)|(apply zB <;> intro hb <;> (try simp [-zd] at hb) <;> try (exfalso;omega))))
   ·have hE:L++[⟨0,i,j,0⟩]=jz m s i++qem m s i (j+1):=by rw [jft,zb hb,← zy,hL]
    ((conv=>whnf);refine ⟨j+1,hjl,⟨⟨Le.refl _,qjn hE 2,trivial⟩,⟨qhg Mv.cells {} hE rfl,trivial⟩⟩,⟨qa,qa⟩,?_⟩;(first|omega|(dsimp only;omega)|skip))
   ·have hE:L=jz m s i++qem m s i (j+1):=by rw [jft,za (by rw [hb];decide),zac,hL]
    ((conv=>whnf);refine ⟨j+1,hjl,⟨⟨Le.refl _,qkx hE 2,trivial⟩,⟨qkw Mv.cells {} hE,trivial⟩⟩,⟨qa,qa⟩,?_⟩;(first|omega|(dsimp only;omega)|skip))
  ·have hjl:(edgesOf m i).length≤j:=by assumption
   obtain rfl:j=(edgesOf m i).length:=by omega
   rw [jug,← hp1] at hL
   ((conv=>whnf);refine ⟨i+1,hil,⟨⟨Le.refl _,qkx hL.symm 2,trivial⟩,⟨qkw Mv.cells {} hL.symm,trivial⟩⟩,⟨qa,qa⟩,?_⟩;(first|omega|(dsimp only;omega)|skip))
 ·obtain rfl:i=m.procs.length:=by omega
  have he0:jz m s m.procs.length++qde m s 0=jz m s m.procs.length:=zac _
  ((conv=>whnf);refine qo (fun _=>rfl) 300 2 (fun c:Nat=>[(8,iv c),(5,.own 2 0 0 (jz m s m.procs.length++qde m s c).length)]) (fun c=>[(2,.row [] 54 4 0 (jz m s m.procs.length++qde m s c).length (encL Mv.cells {} (jz m s m.procs.length++qde m s c)))]) (fun c=>c≤m.chans.length∧(s.holder=-1∨c=0)) (fun c=>m.chans.length - c) (0) (⟨zx _,.inr rfl⟩) ⟨Le.refl _,qkx he0.symm 2,trivial⟩ ⟨qkw Mv.cells {} he0.symm,trivial⟩ (fun _=>rfl) (by kernel_rfl) ?_;(conv=>whnf))
  rintro c ⟨hc,hc2⟩
  have hcn:=qxi m s c
  have hsum:(jz m s m.procs.length++qde m s c).length≤200000:=by rw [zg];omega
  generalize hL:jz m s m.procs.length++qde m s c=L at hsum ⊢
  (repeat' ((conv=>whnf);first|refine Ob.auto ?_|(apply zB <;> intro hb <;> (try simp [-zd] at hb) <;> try (exfalso;omega))))
  ·have hE:L++[⟨1,0,0,c⟩,⟨2,0,0,c⟩]=jz m s m.procs.length++qde m s (c+1):=by rw [qoz,← zy,hL];rw [qsk,zb (by assumption),zb (by assumption)];rfl
   ((conv=>whnf);refine ⟨c+1,⟨by omega,.inl (by omega)⟩,⟨⟨Le.refl _,juj hE 2,trivial⟩,⟨jui Mv.cells {} hE rfl rfl,trivial⟩⟩,⟨qa,qa⟩,?_⟩;(first|omega|(dsimp only;omega)|skip))
  ·have hE:L++[⟨1,0,0,c⟩]=jz m s m.procs.length++qde m s (c+1):=by rw [qoz,← zy,hL];rw [qsk,zb (by assumption),za (fun h=>by have:=(by assumption:(m.chans.getD c ch0).copying=true→0<(s.chans.getD c []).length→(m.chans.getD c ch0).room≤((s.chans.getD c []).length:Int)) h.1.1 h.1.2;omega)];rfl
   ((conv=>whnf);refine ⟨c+1,⟨by omega,.inl (by omega)⟩,⟨⟨Le.refl _,qjn hE 2,trivial⟩,⟨qhg Mv.cells {} hE rfl,trivial⟩⟩,⟨qa,qa⟩,?_⟩;(first|omega|(dsimp only;omega)|skip))
  ·have hE:L++[⟨2,0,0,c⟩]=jz m s m.procs.length++qde m s (c+1):=by rw [qoz,← zy,hL];rw [qsk,za (fun h=>by have e:=(by assumption:(m.chans.getD c ch0).lossy=true→s.chans.getD c []=[]) h.1;rw [e] at h;exact absurd h.2 (zbi 0)),zb (by assumption)];rfl
   ((conv=>whnf);refine ⟨c+1,⟨by omega,.inl (by omega)⟩,⟨⟨Le.refl _,qjn hE 2,trivial⟩,⟨qhg Mv.cells {} hE rfl,trivial⟩⟩,⟨qa,qa⟩,?_⟩;(first|omega|(dsimp only;omega)|skip))
  ·have hE:L=jz m s m.procs.length++qde m s (c+1):=by rw [qoz,← zy,hL];rw [qsk,za (fun h=>by have e:=(by assumption:(m.chans.getD c ch0).lossy=true→s.chans.getD c []=[]) h.1;rw [e] at h;exact absurd h.2 (zbi 0)),za (fun h=>by have:=(by assumption:(m.chans.getD c ch0).copying=true→0<(s.chans.getD c []).length→(m.chans.getD c ch0).room≤((s.chans.getD c []).length:Int)) h.1.1 h.1.2;omega)];simp
   ((conv=>whnf);refine ⟨c+1,⟨by omega,.inl (by omega)⟩,⟨⟨Le.refl _,qkx hE 2,trivial⟩,⟨qkw Mv.cells {} hE,trivial⟩⟩,⟨qa,qa⟩,?_⟩;(first|omega|(dsimp only;omega)|skip))
  ·have hmv:qap m s=jz m s m.procs.length++qde m s c:=by
    unfold qap
    by_cases hho:s.holder=-1
    ·obtain rfl:c=m.chans.length:=by omega
     rw [zb hho];rfl
    ·obtain rfl:c=0:=hc2.resolve_left hho
     rw [za hho];rfl
   rw [hmv,hL]
   exact Le.refl _
end Go.Proofs.YtcfllgdfhfcicaaGreatDoor
end
section
namespace Go.Proofs.YtcfllgdfhfcicaaGreatDoor
open Go Go.Sx Go.RowKit Go.St
set_option maxRecDepth 100000
set_option maxHeartbeats 4000000
theorem juo {a b:Mv} (h:a.kind=b.kind∧a.proc=b.proc∧a.edge=b.edge∧a.chn=b.chn):a=b:=by
 cases a;cases b;simp_all
theorem qxl {k i:Nat} (h:k≠i):(k<i+1)=(k<i):=propext ⟨fun _=>by omega,fun _=>by omega⟩
theorem qjo {f g:Nat→List AV} {m q:Nat} (hq:q<m):appF 0 f m g q=g q:=by
 unfold appF
 rw [za (by omega),zb (by omega),zam]
theorem jup (l:List Int) (hl:l.length≤1000000):Con Tryz.prog 149 [ints l] (ints l):=by
 refine zK {} 300 Tryz.func149 (fun c0 rdb=>?_)
 (repeat' ((conv=>whnf);first|refine Ob.auto ?_|(refine Ob.intro (by ((refine ⟨by omega,by omega,by omega,?_⟩;dsimp only;refine zbs (zaq (?_:_≤(4000001:Int)) (xr _)) (by decide +kernel);omega))) ?_)|fail))
 exact Le.slc (by simp) (fun q hq=>qjo (by simpa using hq))
theorem qpb (l:List Int) (hl:l.length≤1000000):Trip Tryz.prog 149 [ints l] [] (.own 0 0 0 l.length) [(0,.row [] 3 1 0 l.length (encL (fun n=>[iv n]) 0 l))] 1:=by
 refine zL {} 300 Tryz.func149 (fun c0 rdb mpb=>?_)
 (repeat' ((conv=>whnf);first|refine Ob.auto ?_|(refine Ob.intro (by ((refine ⟨by omega,by omega,by omega,?_⟩;dsimp only;refine zbs (zaq (?_:_≤(4000001:Int)) (xr _)) (by decide +kernel);omega))) ?_)|fail))
 refine ⟨Le.of_eq (by simp),⟨⟨rfl,rfl,by simp⟩,rfl,by simp,fun q hq=>LeL.of_eq (qjo (by simpa using hq))⟩,trivial⟩
theorem jfz (s:Stt) (hs:SSz s):Trip Tryz.prog 119 [s.av] [] (.agg [.own 4 0 0 s.at_.length,.own 8 0 0 s.vars.length,.own 13 0 0 s.chans.length,iv s.holder])
  [(4,.row [] 3 1 0 s.at_.length (encL (fun n=>[iv n]) 0 s.at_)),(8,.row [] 3 1 0 s.vars.length (encL (fun n=>[iv n]) 0 s.vars)),(13,.row [] 28 1 0 s.chans.length (encL (fun c=>[ints c]) [] s.chans))] 14:=by
 have ha:=hs.a
 have hv:=hs.v
 have hc:=hs.c
 have hl:=hs.l
 refine zL {} 300 Tryz.func119 (fun c0 rdb mpb=>?_)
 ((conv=>whnf);refine qbh (fun _=>rfl) (by kernel_rfl) 300 [.new [ints s.at_] (.own 0 0 0 s.at_.length) [(0,.row [] 3 1 0 s.at_.length (encL (fun n=>[iv n]) 0 s.at_))] 1,.new [ints s.vars] (.own 0 0 0 s.vars.length) [(0,.row [] 3 1 0 s.vars.length (encL (fun n=>[iv n]) 0 s.vars))] 1] (by kernel_rfl) ?_)
 (repeat' ((conv=>whnf);first|refine Ob.auto ?_|(refine Ob.intro (by (first|(refine ⟨by omega,by omega,by omega,?_⟩;dsimp only;refine zbs (zaq (?_:_≤(4000001:Int)) (xr _)) (by decide +kernel);omega)|exact ⟨qpb s.at_ hs.a,by rfl,LeL.refl _,by kernel_rfl,by kernel_rfl,by exact qb rfl⟩|exact ⟨qpb s.vars hs.v,by rfl,LeL.refl _,by kernel_rfl,by kernel_rfl,by exact qb rfl⟩)) ?_)|fail))
 ((conv=>whnf);refine qo (fun _=>rfl) 300 1 (fun i:Nat=>[(22,iv i)]) (fun i=>[(13,.row [] 28 1 0 s.chans.length (fun k=>[if k<i then ints (s.chans.getD k []) else .nils]))]) (fun i=>i≤s.chans.length) (fun i=>s.chans.length - i) (0) (by omega) qa ⟨qaz (fun k _=>by rw [za (zh k)];rfl),trivial⟩ (fun _=>rfl) (by kernel_rfl) ?_;(conv=>whnf))
 intro i hi
 (repeat' ((conv=>whnf);first|refine Ob.auto ?_|(apply zB <;> intro hb <;> (try simp [-List.getD_eq_getElem?_getD] at hb) <;> try (exfalso;omega))))
 ·((conv=>whnf);refine qbh (fun _=>rfl) (by kernel_rfl) 300 [.con (ints (s.chans.getD i []))] (by kernel_rfl) ?_)
  (repeat' ((conv=>whnf);first|refine Ob.auto ?_|(refine Ob.intro (by (first|exact ⟨by omega,by omega⟩|exact ⟨_,jup (s.chans.getD i []) (hl _ (qe _ _ _ (by omega))),by rfl,LeL.refl _⟩)) ?_)|fail))
  ((conv=>whnf);refine ⟨i+1,by omega,⟨qa,qa⟩,⟨qa,qa⟩,?_⟩;(first|omega|(dsimp only;omega)|skip))
 ·obtain rfl:i=s.chans.length:=by omega
  exact ⟨Le.refl _,⟨⟨rfl,rfl,rfl⟩,rfl,rfl,fun q hq=>LeL.refl _⟩,⟨⟨rfl,rfl,rfl⟩,rfl,rfl,fun q hq=>LeL.refl _⟩,qaz (fun k hk=>by rw [zb (by simpa using hk)];rfl),trivial⟩
theorem jga (s:Stt) (hs:SSz s):Trip Tryz.prog 119 [s.av] [] (.agg [.own 4 0 0 s.at_.length,.own 8 0 0 s.vars.length,.own 13 0 0 s.chans.length,iv s.holder])
  [(4,.row [] 3 1 0 s.at_.length (encL (fun n=>[iv n]) 0 s.at_)),(8,.row [] 3 1 0 s.vars.length (encL (fun n=>[iv n]) 0 s.vars)),(13,.row [19] 28 1 0 s.chans.length (fun k=>[.own 19 k 1 (s.chans.getD k []).length])),
   (19,.fam 3 1 s.chans.length (fun _=>1) (fun k=>(s.chans.getD k []).length) (fun k=>encL (fun n=>[iv n]) 0 (s.chans.getD k [])))] 20:=by
 have ha:=hs.a
 have hv:=hs.v
 have hc:=hs.c
 have hl:=hs.l
 refine zL {} 300 Tryz.func119 (fun c0 rdb mpb=>?_)
 ((conv=>whnf);refine qbh (fun _=>rfl) (by kernel_rfl) 300 [.new [ints s.at_] (.own 0 0 0 s.at_.length) [(0,.row [] 3 1 0 s.at_.length (encL (fun n=>[iv n]) 0 s.at_))] 1,.new [ints s.vars] (.own 0 0 0 s.vars.length) [(0,.row [] 3 1 0 s.vars.length (encL (fun n=>[iv n]) 0 s.vars))] 1] (by kernel_rfl) ?_)
 (repeat' ((conv=>whnf);first|refine Ob.auto ?_|(refine Ob.intro (by (first|(refine ⟨by omega,by omega,by omega,?_⟩;dsimp only;refine zbs (zaq (?_:_≤(4000001:Int)) (xr _)) (by decide +kernel);omega)|exact ⟨qpb s.at_ hs.a,by rfl,LeL.refl _,by kernel_rfl,by kernel_rfl,by exact qb rfl⟩|exact ⟨qpb s.vars hs.v,by rfl,LeL.refl _,by kernel_rfl,by kernel_rfl,by exact qb rfl⟩)) ?_)|fail))
 refine jbb 13 3 1 rfl (fun _ _=>rfl) ?_
 ((conv=>whnf);refine jfq (fun _=>rfl) 300 1 (fun i:Nat=>[(22,iv i)]) (fun i=>[(13,.row [19] 28 1 0 s.chans.length (fun k=>[.own 19 k (if k<i then 1 else 0) (if k<i then (s.chans.getD k []).length else 0)])),(19,.fam 3 1 s.chans.length (fun k=>if k<i then 1 else 0) (fun k=>if k<i then (s.chans.getD k []).length else 0) (fun k=>encL (fun n=>[iv n]) 0 (s.chans.getD k [])))]) (fun i=>i≤s.chans.length) (fun i=>s.chans.length - i) (0) (by omega) qa ⟨qaz (fun k _=>by rw [za (zh k),za (zh k)]),qeu (fun k _=>by rw [za (zh k)]) (fun k _=>by rw [za (zh k)]) (fun k j _ hj=>absurd hj (zh _)),trivial⟩ (fun _=>rfl) (by kernel_rfl) ?_;(conv=>whnf))
 intro i hi
 (repeat' ((conv=>whnf);first|refine Ob.auto ?_|(apply zB <;> intro hb <;> (try simp [-List.getD_eq_getElem?_getD] at hb) <;> try (exfalso;omega))))
 ·have hci:=hl _ (qe s.chans i [] (by omega))
  ((conv=>whnf);refine qbh (fun _=>rfl) (by kernel_rfl) 300 [.new [ints (s.chans.getD i [])] (.own 0 0 0 (s.chans.getD i []).length) [(0,.row [] 3 1 0 (s.chans.getD i []).length (encL (fun n=>[iv n]) 0 (s.chans.getD i [])))] 1] (by kernel_rfl) ?_)
  (repeat' ((conv=>whnf);first|refine Ob.auto ?_|(refine Ob.intro (by (first|exact ⟨by omega,by omega⟩|exact ⟨qpb _ hci,by rfl,LeL.refl _,by kernel_rfl,by kernel_rfl,by exact qb rfl⟩)) ?_)|fail))
  ((conv=>whnf);refine ⟨i+1,by omega,⟨_,Turn.absorb 13 19 24 i rfl rfl rfl (by omega) (by decide) (by exact zb rfl) (fun k _ hne=>⟨_,_,za hne⟩),⟨qa,⟨qaz (fun k _=>?_),qeu (fun k _=>?_) (fun k _=>?_) (fun k j _ hj=>?_),trivial⟩⟩,⟨qa,qa⟩⟩,?_⟩;(first|omega|(dsimp only;omega)|skip))
  ·by_cases hki:k=i
   ·subst hki
    refine (zb rfl).trans ?_
    simp
   ·refine (za hki).trans ((za hki).trans ?_)
    simp only [qxl hki]
  ·unfold upd
   by_cases hki:k=i
   ·subst hki;simp
   ·rw [za hki];simp only [qxl hki]
  ·unfold upd
   by_cases hki:k=i
   ·subst hki;simp
   ·rw [za hki];simp only [qxl hki]
  ·unfold upd
   by_cases hki:k=i
   ·subst hki;rw [zb rfl]
   ·rw [za hki]
  ·omega
 ·obtain rfl:i=s.chans.length:=by omega
  exact ⟨Le.refl _,⟨⟨rfl,rfl,rfl⟩,rfl,rfl,fun q hq=>LeL.refl _⟩,⟨⟨rfl,rfl,rfl⟩,rfl,rfl,fun q hq=>LeL.refl _⟩,qaz (fun k hk=>by rw [zb hk,zb hk]),qeu (fun k hk=>by rw [zb hk]) (fun k hk=>by rw [zb hk]) (fun _ _ _ _=>rfl),trivial⟩
end Go.Proofs.YtcfllgdfhfcicaaGreatDoor
end
