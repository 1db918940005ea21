/- Some texts of the library, one behind the other. -/
import Derived.Test.YtcfllgdfhfcicaaGreatDoorQ27
import Derived.Test.YtcfllgdfhfcicaaGreatDoorQ29
import Derived.Test.YtcfllgdfhfcicaaGreatDoorQ25
import Derived.Test.YtcfllgdfhfcicaaGreatDoorQ4
import Derived.Test.YtcfllgdfhfcicaaGreatDoorQ28
import Derived.Test.YtcfllgdfhfcicaaGreatDoorQ2
section
namespace Go.Proofs.YtcfllgdfhfcicaaGreatDoor
open List renaming getD_eq_getElem?_getD → zd
open Go Go.Sx Go.RowKit Go.St
set_option maxRecDepth 100000
set_option maxHeartbeats 4000000
theorem jsi (A B:List Ev) (c:Int):∃ r,qaa (A++B) c=qaa A c++r:=by
 unfold qaa
 rw [List.length_append,List.range_add,List.filter_append]
 refine ⟨_,congrArg (·++_) (List.filter_congr fun j hj=>?_)⟩
 rw [jec _ _ _ (List.mem_range.1 hj)]
theorem jem {E:List Ev} {i:Nat} (h:i<E.length):E.take (i+1)=E.take i++[E.getD i {}]:=by
 rw [List.take_add_one,List.getElem?_eq_getElem h,zd,List.getElem?_eq_getElem h];rfl
theorem jen {E:List Ev} {i:Nat} (h:i<E.length) (c:Int):jf (E.take (i+1)) c=jf (E.take i) c+(if qeo c (E.getD i {})=true then 1 else 0):=by
 rw [jem h,qrq]
theorem qwn {E:List Ev} {i:Nat} (h:i<E.length) (c:Int):qaa (E.take (i+1)) c=qaa (E.take i) c++(if qdh c (E.getD i {})=true then [i] else []):=by
 rw [jem h,qrp,List.length_take,Nat.min_eq_left (Nat.le_of_lt h)]
theorem jsj {E:List Ev} {c:Int} {i:Nat} (h:i<E.length) (hp:qdh c (E.getD i {})=true) (hg:(qaa (E.take i) c).length=jf E c):qab E c=i:=by
 obtain ⟨r,hr⟩:=jsi (E.take (i+1)) (E.drop (i+1)) c
 rw [List.take_append_drop,qwn h,if_pos hp,List.append_assoc] at hr
 unfold qab
 rw [hr,List.getElem?_append_right (by omega),hg,Nat.sub_self]
 rfl
theorem jsk {E:List Ev} {c:Int} (hg:(qaa E c).length≤jf E c):qab E c=-1:=by
 unfold qab
 rw [List.getElem?_eq_none hg]
theorem jsl (E:List Ev) (hE:E.length≤1000000) (c:Int):Con Tryz.prog 34 [evsV E,iv c] (iv (qab E c)):=by
 refine zK {} 300 Tryz.func34 (fun c0 rdb=>?_)
 have hgl:∀ i,jf (E.take i) c≤i:=fun i=>by
  have h1:=List.countP_le_length (p:=qeo c) (l:=E.take i)
  rw [List.length_take] at h1
  unfold jf
  omega
 ((conv=>whnf);refine qp (fun _=>rfl) 300 1 (fun i:Nat=>[(6,iv i),(5,iv (jf (E.take i) c))]) (fun _=>[]) (fun i=>i≤E.length) (fun i=>E.length - i) (0) (Nat.zero_le _) qa qa (fun _=>rfl) (by kernel_rfl) ?_;(conv=>whnf))
 intro i hi
 have hgi:=hgl i
 (repeat' ((conv=>whnf);first|refine Ob.auto ?_|(apply zB <;> intro hb <;> (try simp [-zd] at hb) <;> try (exfalso;omega))))
 ·have hb1:i<E.length:=by assumption
  have e:=jen hb1 c
  have ht:qeo c (E.getD i {})=true:=decide_eq_true hb
  rw [if_pos ht] at e
  ((conv=>whnf);refine ⟨i+1,hb1,⟨⟨Le.refl _,Le.of_eq (congrArg (AV.int _) (by rw [e];rfl)),trivial⟩,qa⟩,⟨qa,qa⟩,?_⟩;(first|omega|(dsimp only;omega)|skip))
 ·have hb1:i<E.length:=by assumption
  have e:=jen hb1 c
  rw [if_neg (by unfold qeo;rw [decide_eq_true_eq];rintro ⟨h1,h2|h2⟩;exact (hb h1).1 h2;exact (hb h1).2 h2)] at e
  ((conv=>whnf);refine ⟨i+1,hb1,⟨⟨Le.refl _,Le.of_eq (congrArg (AV.int _) (by rw [e];rfl)),trivial⟩,qa⟩,⟨qa,qa⟩,?_⟩;(first|omega|(dsimp only;omega)|skip))
 obtain rfl:i=E.length:=by omega
 rw [List.take_length] at hgi ⊢
 have hpl:∀ i,(qaa (E.take i) c).length≤i:=fun i=>by
  have h1:=List.length_filter_le (fun j=>qdh c ((E.take i).getD j {})) (List.range (E.take i).length)
  rw [List.length_range] at h1
  have h2:(E.take i).length≤i:=by rw [List.length_take];omega
  exact Nat.le_trans h1 h2
 ((conv=>whnf);refine qp (fun _=>rfl) 300 2 (fun i:Nat=>[(7,iv i),(5,iv ((jf E c:Int) - (qaa (E.take i) c).length))]) (fun _=>[]) (fun i=>i≤E.length∧(qaa (E.take i) c).length≤jf E c) (fun i=>E.length - i) (0) (⟨Nat.zero_le _,Nat.zero_le _⟩) qa qa (fun _=>rfl) (by kernel_rfl) ?_;(conv=>whnf))
 intro i hi
 have hpi:=hpl i
 (repeat' ((conv=>whnf);first|refine Ob.auto ?_|(apply zB <;> intro hb <;> (try simp [-zd] at hb) <;> try (exfalso;omega))))
 ·have hil:i<E.length:=by assumption
  have hp:qdh c (E.getD i {})=true:=decide_eq_true (by assumption)
  rw [jsj hil hp (by omega)]
  exact Le.refl _
 ·have hil:i<E.length:=by assumption
  have hp:qdh c (E.getD i {})=true:=decide_eq_true (by assumption)
  have e:=qwn hil c
  rw [if_pos hp] at e
  have el:=congrArg List.length e
  rw [List.length_append,List.length_singleton] at el
  ((conv=>whnf);refine ⟨i+1,⟨hil,by omega⟩,⟨⟨Le.refl _,Le.of_eq (congrArg (AV.int _) (by rw [el];omega)),trivial⟩,qa⟩,⟨qa,qa⟩,?_⟩;(first|omega|(dsimp only;omega)|skip))
 ·have hil:i<E.length:=by assumption
  have e:=qwn hil c
  rw [if_neg (by unfold qdh;rw [decide_eq_true_eq];rintro ⟨h1,h2|h2⟩;exact (hb h1).1 h2;exact (hb h1).2 h2),List.append_nil] at e
  ((conv=>whnf);refine ⟨i+1,⟨hil,by rw [e];exact hi.2⟩,⟨⟨Le.refl _,Le.of_eq (congrArg (AV.int _) (by rw [e])),trivial⟩,qa⟩,⟨qa,qa⟩,?_⟩;(first|omega|(dsimp only;omega)|skip))
 ·obtain rfl:i=E.length:=by omega
  have:=hi.2
  rw [List.take_length] at this
  rw [jsk this]
  exact Le.refl _
theorem qgx {m:Md} {s:Stt} {p:Nat} {e:Ed} (h1:s.at_.getD p 0=e.frm) (h2:e.expr<0∨(val m p s e.expr).2=true):canB m s p e =
  (if e.act=2 then decide (qlen s e.chn<room m e.chn) else if e.act=3 then decide (0<qlen s e.chn) else if e.act=4 then !((if e.expr<0 then 0 else (val m p s e.expr).1) == 0) else if e.act=5 then (if e.expr<0 then 0 else (val m p s e.expr).1) == 0 else true):=by
 have h3:(decide (e.expr<0) || (val m p s e.expr).2)=true:=by
  rcases h2 with h2|h2
  ·rw [decide_eq_true h2];rfl
  ·rw [h2,Bool.or_true]
 unfold canB
 rw [beq_iff_eq.2 h1,h3];rfl
theorem jeo (m:Md) (hm:MOk m) (s:Stt) (hf:ql m s=true) (p:Nat) (hp:p<m.procs.length) (e:Ed) {pl:Int} (he:EdOk m.tree.length m.vars.length m.chans.length pl e) :
  Con Tryz.prog 54 [m.av,s.av,iv p,.agg e.cells] (.bool (canB m s p e)):=by
 have hso:=qop hm hf
 have hat:s.at_.length=m.procs.length:=((jh m s).1 hf).1.1
 have hcl:=hso.cl
 have hch:=he.chn
 have hac:=he.act
 have hex:e.expr<m.tree.length:=by
  have h1:=he.ex
  have h2:=he.nex
  by_cases h:e.act=1∨e.act=2∨e.act=4∨e.act=5
  ·exact (h1 h).2
  ·have:=h2 (by omega);omega
 refine zK {} 300 Tryz.func54 (fun c0 rdb=>?_)
 (repeat' ((conv=>whnf);first|refine zO ?_|refine Ob.auto ?_|refine zC 300 (qwi m hm p s hso m.tree.length e.expr (by omega) (by omega) (Nat.sub_le _ _)) ?_|refine zD 300 ?_|(apply zB <;> intro hb <;> (try simp [-zd] at hb) <;> try (exfalso;omega))))
 all_goals refine Le.of_eq (congrArg AV.bool ?_)
 ·unfold canB val
  rcases hb with hb|hb
  ·rw [beq_eq_false_iff_ne.2 hb];try rfl
  ·rw [hb,Bool.or_false,decide_eq_false (by omega),Bool.and_false];try rfl
 ·have hA:s.at_.getD p 0=e.frm∧(valN m p s m.tree.length e.expr).2=true:=by assumption
  rw [qgx hA.1 (.inr hA.2),if_pos (by assumption)];try rfl
 ·have hA:s.at_.getD p 0=e.frm∧(valN m p s m.tree.length e.expr).2=true:=by assumption
  rw [qgx hA.1 (.inr hA.2),if_neg (by assumption),if_pos (by assumption)];try rfl
 ·have hA:s.at_.getD p 0=e.frm∧(valN m p s m.tree.length e.expr).2=true:=by assumption
  rw [qgx hA.1 (.inr hA.2),if_neg (by assumption),if_neg (by assumption),if_pos (by assumption),if_neg (by omega)];try rfl
 ·have hA:s.at_.getD p 0=e.frm∧(valN m p s m.tree.length e.expr).2=true:=by assumption
  rw [qgx hA.1 (.inr hA.2),if_neg (by assumption),if_neg (by assumption),if_neg (by assumption),if_pos (by assumption),if_neg (by omega)];try rfl
 ·have hA:s.at_.getD p 0=e.frm∧(valN m p s m.tree.length e.expr).2=true:=by assumption
  rw [qgx hA.1 (.inr hA.2),if_neg (by assumption),if_neg (by assumption),if_neg (by assumption),if_neg (by assumption)]
 ·unfold canB
  rw [beq_eq_false_iff_ne.2 hb];try rfl
 ·have hA:s.at_.getD p 0=e.frm:=by assumption
  rw [qgx hA (.inl (by assumption)),if_pos (by assumption)];try rfl
 ·have hA:s.at_.getD p 0=e.frm:=by assumption
  rw [qgx hA (.inl (by assumption)),if_neg (by assumption),if_pos (by assumption)];try rfl
 ·have hA:s.at_.getD p 0=e.frm:=by assumption
  rw [qgx hA (.inl (by assumption)),if_neg (by assumption),if_neg (by assumption),if_pos (by assumption),if_pos (by assumption)];try rfl
 ·have hA:s.at_.getD p 0=e.frm:=by assumption
  rw [qgx hA (.inl (by assumption)),if_neg (by assumption),if_neg (by assumption),if_neg (by assumption),if_pos (by assumption),if_pos (by assumption)];try rfl
 ·have hA:s.at_.getD p 0=e.frm:=by assumption
  rw [qgx hA (.inl (by assumption)),if_neg (by assumption),if_neg (by assumption),if_neg (by assumption),if_neg (by assumption)]
theorem qot (m:Md) (hM:ModOk m) (s:Stt) (hf:ql m s=true) (p:Nat) (hp:p<m.procs.length) :
  Con Tryz.prog 58 [m.av,s.av,iv p] (.bool (qnl m s p)):=by
 have hn:=(hM.psz _ (qh m.procs p pr0 hp)).1
 refine zK {} 300 Tryz.func58 (fun c0 rdb=>?_)
 ((conv=>whnf);refine qp (fun _=>rfl) 300 1 (fun i:Nat=>[(7,iv i),(6,.bool false)]) (fun _=>[]) (fun i=>i≤(edgesOf m p).length∧∀ j,j<i→canB m s p ((edgesOf m p).getD j ed0)=false) (fun i=>(edgesOf m p).length - i) (0) (⟨Nat.zero_le _,fun j hj=>absurd hj (Nat.not_lt_zero j)⟩) qa qa (fun _=>rfl) (by kernel_rfl) ?_;(conv=>whnf))
 intro i hi
 (repeat' ((conv=>whnf);first|refine zA ?_|refine Ob.auto ?_|(refine CallY.con (jeo m hM.ok s hf p hp ((edgesOf m p).getD i ed0) (edOk hM hp (by exact hb))) (by rfl) leA ?_)|(refine zQ 300 ?_)|(apply zB <;> intro hb <;> (try simp [-zd] at hb) <;> try (exfalso;omega))))
 ·have hil:i<(edgesOf m p).length:=by assumption
  exact Le.of_eq (congrArg AV.bool (List.any_eq_true.2 ⟨_,qh _ _ _ hil,by assumption⟩).symm)
 ·have hil:i<(edgesOf m p).length:=by assumption
  ((conv=>whnf);refine ⟨i+1,⟨hil,qal hi.2 (by assumption)⟩,⟨qa,qa⟩,⟨qa,qa⟩,?_⟩;(first|omega|(dsimp only;omega)|skip))
 ·have hil:(edgesOf m p).length≤i:=by assumption
  refine Le.of_eq (congrArg AV.bool ?_)
  unfold qnl
  rw [Eq.comm,List.any_eq_false]
  intro e hme
  obtain ⟨j,hj,rfl⟩:=List.mem_iff_getElem.1 hme
  have:=hi.2 j (by omega)
  rw [zd,List.getElem?_eq_getElem hj] at this
  simp only [Option.getD_some] at this
  rw [this];decide
theorem qrt (m:Md) (s:Stt) (c:Nat):qhm m s c=(if (m.chans.getD c ch0).lossy=true∧0<(s.chans.getD c []).length then [⟨1,0,0,c⟩] else [])++(if ((m.chans.getD c ch0).copying=true∧0<(s.chans.getD c []).length)∧((s.chans.getD c []).length:Int)<(m.chans.getD c ch0).room then [⟨2,0,0,c⟩] else []):=by
 unfold qhm qir qhl qlen room
 simp only [Int.toNat_natCast,Bool.and_eq_true,decide_eq_true_eq,Int.natCast_pos]
theorem jsm (m:Md) (hM:ModOk m) (s:Stt) (hf:ql m s=true):Con Tryz.prog 31 [m.av,s.av] (qcr (qhn m s)):=by
 have hs:=qck hM hf
 have h0:=((jh m s).1 hf).1
 have hz:=hM.sz
 have hpl:=qwm m hM s
 have hcl:=h0.2.2.1
 have hpz:=hM.psz
 have hh:=h0.2.2.2.1
 refine zK {owns:=[(5,(54,4))]} 300 Tryz.func31 (fun c0 rdb=>?_)
 ((conv=>whnf);refine qp (fun _=>rfl) 300 1 (fun i:Nat=>[(6,iv i),(5,.own 2 0 0 (ju m s i).length)]) (fun i=>[(2,.row [] 54 4 0 (ju m s i).length (encL Mv.cells {} (ju m s i)))]) (fun i=>i≤m.procs.length) (fun i=>m.procs.length - i) (0) (Nat.zero_le _) qa ⟨qba (fun k hk=>absurd hk (Nat.not_lt_zero k)),trivial⟩ (fun _=>rfl) (by kernel_rfl) ?_;(conv=>whnf))
 intro i hi
 have hpi:=hpl i hi
 (repeat' ((conv=>whnf);first|refine Ob.auto ?_|(apply zB <;> intro hb <;> (try simp [-zd] at hb) <;> try (exfalso;omega))))
 ·have hp1:ju m s (i+1)=ju m s i:=by rw [qwk,if_pos ⟨by omega,by omega⟩,List.append_nil]
  ((conv=>whnf);refine ⟨i+1,by omega,⟨⟨Le.refl _,qko hp1.symm 2,trivial⟩,⟨qkm Mv.cells {} hp1.symm,trivial⟩⟩,⟨qa,qa⟩,?_⟩;(first|omega|(dsimp only;omega)|skip))
 ·have hp1:ju m s (i+1)=ju m s i++qiq m s i:=by rw [qwk,if_neg (fun h=>by omega)]
  have hil:i<m.procs.length:=by assumption
  have hpe:=(hpz _ (qh m.procs i pr0 hil)).1
  have hel:(edgesOf m i).length≤40000:=hpe
  have he0:ju m s i++qee m s i 0=ju m s i:=List.append_nil _
  ((conv=>whnf);refine qp (fun _=>rfl) 300 2 (fun j:Nat=>[(7,iv j),(5,.own 2 0 0 (ju m s i++qee m s i j).length)]) (fun j=>[(2,.row [] 54 4 0 (ju m s i++qee m s i j).length (encL Mv.cells {} (ju m s i++qee m s i j)))]) (fun j=>j≤(edgesOf m i).length) (fun j=>(edgesOf m i).length - j) (0) (Nat.zero_le _) ⟨Le.refl _,qko he0.symm 2,trivial⟩ ⟨qkm Mv.cells {} he0.symm,trivial⟩ (fun _=>rfl) (by kernel_rfl) ?_;(conv=>whnf))
  intro j hj
  have hen:=jel m s i j
  have hsum:(ju m s i++qee m s i j).length≤200000:=by rw [List.length_append];omega
  generalize hL:ju m s i++qee m s i j=L at hsum ⊢
  (repeat' ((conv=>whnf);first|refine Ob.auto ?_|(apply zB <;> intro hb <;> (try simp [-zd] at hb) <;> try (exfalso;omega))))
  ·have hjl:j<(edgesOf m i).length:=by assumption
   ((conv=>whnf);refine zQ 300 ?_)
   (repeat' ((conv=>whnf);first|refine zA ?_|refine Ob.auto ?_|(refine CallY.con (jeo m hM.ok s hf i hil ((edgesOf m i).getD j ed0) (edOk hM hil hjl)) (by rfl) leA ?_)|(apply zB <;> intro hb <;> (try simp [-zd] at hb) <;> try (exfalso;omega))))
   ·have hE:L++[⟨0,i,j,0⟩]=ju m s i++qee m s i (j+1):=by rw [jek,if_pos hb,← List.append_assoc,hL]
    ((conv=>whnf);refine ⟨j+1,hjl,⟨⟨Le.refl _,qkn hE 2,trivial⟩,⟨qia Mv.cells {} hE rfl,trivial⟩⟩,⟨qa,qa⟩,?_⟩;(first|omega|(dsimp only;omega)|skip))
   ·have hE:L=ju m s i++qee m s i (j+1):=by rw [jek,if_neg (by rw [hb];decide),List.append_nil,hL]
    ((conv=>whnf);refine ⟨j+1,hjl,⟨⟨Le.refl _,qko hE 2,trivial⟩,⟨qkm Mv.cells {} hE,trivial⟩⟩,⟨qa,qa⟩,?_⟩;(first|omega|(dsimp only;omega)|skip))
  ·have hjl:(edgesOf m i).length≤j:=by assumption
   obtain rfl:j=(edgesOf m i).length:=by omega
   rw [jse,← hp1] at hL
   ((conv=>whnf);refine ⟨i+1,hil,⟨⟨Le.refl _,qko hL.symm 2,trivial⟩,⟨qkm Mv.cells {} hL.symm,trivial⟩⟩,⟨qa,qa⟩,?_⟩;(first|omega|(dsimp only;omega)|skip))
 ·obtain rfl:i=m.procs.length:=by omega
  have he0:ju m s m.procs.length++qcx m s 0=ju m s m.procs.length:=List.append_nil _
  ((conv=>whnf);refine qp (fun _=>rfl) 300 2 (fun c:Nat=>[(8,iv c),(5,.own 2 0 0 (ju m s m.procs.length++qcx m s c).length)]) (fun c=>[(2,.row [] 54 4 0 (ju m s m.procs.length++qcx m s c).length (encL Mv.cells {} (ju m s m.procs.length++qcx m s c)))]) (fun c=>c≤m.chans.length∧(s.holder=-1∨c=0)) (fun c=>m.chans.length - c) (0) (⟨Nat.zero_le _,.inr rfl⟩) ⟨Le.refl _,qko he0.symm 2,trivial⟩ ⟨qkm Mv.cells {} he0.symm,trivial⟩ (fun _=>rfl) (by kernel_rfl) ?_;(conv=>whnf))
  rintro c ⟨hc,hc2⟩
  have hcn:=qwl m s c
  have hsum:(ju m s m.procs.length++qcx m s c).length≤200000:=by rw [List.length_append];omega
  generalize hL:ju m s m.procs.length++qcx m s c=L at hsum ⊢
  (repeat' ((conv=>whnf);first|refine Ob.auto ?_|(apply zB <;> intro hb <;> (try simp [-zd] at hb) <;> try (exfalso;omega))))
  ·have hE:L++[⟨1,0,0,c⟩,⟨2,0,0,c⟩]=ju m s m.procs.length++qcx m s (c+1):=by rw [qos,← List.append_assoc,hL];rw [qrt,if_pos (by assumption),if_pos (by assumption)];rfl
   ((conv=>whnf);refine ⟨c+1,⟨by omega,.inl (by omega)⟩,⟨⟨Le.refl _,jsh hE 2,trivial⟩,⟨jsg Mv.cells {} hE rfl rfl,trivial⟩⟩,⟨qa,qa⟩,?_⟩;(first|omega|(dsimp only;omega)|skip))
  ·have hE:L++[⟨1,0,0,c⟩]=ju m s m.procs.length++qcx m s (c+1):=by rw [qos,← List.append_assoc,hL];rw [qrt,if_pos (by assumption),if_neg (fun h=>by have:=(by assumption:(m.chans.getD c ch0).copying=true→0<(s.chans.getD c []).length→(m.chans.getD c ch0).room≤((s.chans.getD c []).length:Int)) h.1.1 h.1.2;omega)];rfl
   ((conv=>whnf);refine ⟨c+1,⟨by omega,.inl (by omega)⟩,⟨⟨Le.refl _,qkn hE 2,trivial⟩,⟨qia Mv.cells {} hE rfl,trivial⟩⟩,⟨qa,qa⟩,?_⟩;(first|omega|(dsimp only;omega)|skip))
  ·have hE:L++[⟨2,0,0,c⟩]=ju m s m.procs.length++qcx m s (c+1):=by rw [qos,← List.append_assoc,hL];rw [qrt,if_neg (fun h=>by have e:=(by assumption:(m.chans.getD c ch0).lossy=true→s.chans.getD c []=[]) h.1;rw [e] at h;exact absurd h.2 (Nat.lt_irrefl 0)),if_pos (by assumption)];rfl
   ((conv=>whnf);refine ⟨c+1,⟨by omega,.inl (by omega)⟩,⟨⟨Le.refl _,qkn hE 2,trivial⟩,⟨qia Mv.cells {} hE rfl,trivial⟩⟩,⟨qa,qa⟩,?_⟩;(first|omega|(dsimp only;omega)|skip))
  ·have hE:L=ju m s m.procs.length++qcx m s (c+1):=by rw [qos,← List.append_assoc,hL];rw [qrt,if_neg (fun h=>by have e:=(by assumption:(m.chans.getD c ch0).lossy=true→s.chans.getD c []=[]) h.1;rw [e] at h;exact absurd h.2 (Nat.lt_irrefl 0)),if_neg (fun h=>by have:=(by assumption:(m.chans.getD c ch0).copying=true→0<(s.chans.getD c []).length→(m.chans.getD c ch0).room≤((s.chans.getD c []).length:Int)) h.1.1 h.1.2;omega)];simp
   ((conv=>whnf);refine ⟨c+1,⟨by omega,.inl (by omega)⟩,⟨⟨Le.refl _,qko hE 2,trivial⟩,⟨qkm Mv.cells {} hE,trivial⟩⟩,⟨qa,qa⟩,?_⟩;(first|omega|(dsimp only;omega)|skip))
  ·have hmv:qhn m s=ju m s m.procs.length++qcx m s c:=by
    unfold qhn
    by_cases hho:s.holder=-1
    ·obtain rfl:c=m.chans.length:=by omega
     rw [if_pos hho];rfl
    ·obtain rfl:c=0:=hc2.resolve_left hho
     rw [if_neg hho];rfl
   rw [hmv,hL]
   exact Le.refl _
end Go.Proofs.YtcfllgdfhfcicaaGreatDoor
end
section
namespace Go.Proofs.YtcfllgdfhfcicaaGreatDoor
open Go Go.Sx Go.RowKit Go.St
set_option maxRecDepth 100000
set_option maxHeartbeats 4000000
theorem jsn {a b:Mv} (h:a.kind=b.kind∧a.proc=b.proc∧a.edge=b.edge∧a.chn=b.chn):a=b:=by
 cases a;cases b;simp_all
end Go.Proofs.YtcfllgdfhfcicaaGreatDoor
end
