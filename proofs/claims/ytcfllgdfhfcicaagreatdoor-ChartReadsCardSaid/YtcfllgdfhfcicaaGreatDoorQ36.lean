/- Some texts of the library, one behind the other. -/
import Derived.Test.YtcfllgdfhfcicaaGreatDoorQ35
import Derived.Test.YtcfllgdfhfcicaaGreatDoorQ32
import Derived.Test.YtcfllgdfhfcicaaGreatDoorQ2
section
namespace Go.Proofs.YtcfllgdfhfcicaaGreatDoor
open List renaming getD_eq_getElem?_getD → zd
open Go Go.Sx Go.RowKit Go.St Go.Sp
set_option maxRecDepth 100000
set_option maxHeartbeats 4000000
theorem qwm (s:List UInt8) (hs:s.length≤1000000):Con Tryz.prog 62 [.str s] (.tup [iv (numT s).1,.bool (numT s).2]):=by
 have ht:=juo s [45]
 obtain ⟨d,hd⟩:∃ d,d=Lib.trimPrefix s [45]:=⟨_,rfl⟩
 have hdl:d.length≤s.length:=by
  rw [hd];unfold Lib.trimPrefix;split
  ·rw [List.length_drop];omega
  ·exact Nat.le_refl _
 have hnum:numT s=if 0<d.length∧d.length≤6∧d.all digB=true then (if d.length<s.length then -valD d else valD d,Lib.itoa (if d.length<s.length then -valD d else valD d) == s) else (0,false):=by rw [hd];rfl
 rw [← hd] at ht
 rw [hnum]
 by_cases hr:0<d.length∧d.length≤6
 ·have hd0:d≠[]:=fun h=>by rw [h] at hr;simp at hr
  refine zK {} 300 Tryz.func62 (fun c0 rdb=>?_)
  (repeat' ((conv=>whnf);first|refine Ob.auto ?_|refine zC 300 (ht) ?_|(apply zB <;> intro hb <;> (try simp [-zd] at hb) <;> try (exfalso;omega))))
  ·exfalso
   rcases hb with hb|hb
   ·exact hd0 hb
   ·omega
  ((conv=>whnf);refine qm (fun _=>rfl) 300 1 (fun i:Nat=>[(5,iv (valD (d.take i))),(20,iv i)]) (fun _=>[]) (fun i=>i≤d.length∧(d.take i).all digB=true) (fun i=>d.length - i) (0) (⟨Nat.zero_le _,rfl⟩) qa qa (fun _=>rfl) (by kernel_rfl) ?_;(conv=>whnf))
  intro i hi
  have hv:=qrf (d.take i) hi.2
  have hp:(10:Int) ^ (d.take i).length≤1000000:=by
   rw [List.length_take]
   have:min i d.length≤6:=by omega
   exact qrg _ (by omega)
  by_cases hil:i<d.length
  ·have hnx:=qwh d i hil
   have hal:(d.take (i+1)).all digB=digB (d.getD i 0):=by
    have h:d.take (i+1)=d.take i++[d.getD i 0]:=by
     rw [List.take_add_one,zd,List.getElem?_eq_getElem hil];rfl
    rw [h,List.all_append,hi.2];simp
   have hbt:jr d (i:Int)=((d.getD i 0).toNat:Int):=rfl
   have hu:=(d.getD i 0).toNat_lt
   (repeat' ((conv=>whnf);first|refine Ob.auto ?_|(refine Ob.intro (by (first|exact ⟨by omega,by omega⟩|exact ⟨by show (0:Int)≤_;omega,by show _≤(255:Int);omega⟩)) ?_)|(apply zB <;> intro hb <;> (try simp [-zd] at hb) <;> try (exfalso;omega))))
   ·rw [if_neg fun h=>?_]
    ·exact Le.refl _
    ·have:=List.all_eq_true.1 h.2.2 _ (qj d i 0 hil)
     have:=of_decide_eq_true this
     omega
   ·have hdg:digB (d.getD i 0)=true:=decide_eq_true (by omega)
    rw [hdg] at hal
    ((conv=>whnf);refine ⟨i+1,⟨by omega,hal⟩,⟨⟨Le.of_eq (congrArg (AV.int _) hnx.symm),Le.refl _,trivial⟩,trivial⟩,⟨qa,qa⟩,?_⟩;(first|omega|(dsimp only;omega)|skip))
  ·obtain he:i=d.length:=by omega
   have hda:d.all digB=true:=by have:=hi.2;rw [he,List.take_length] at this;exact this
   rw [he,List.take_length] at hv hp ⊢
   rw [if_pos ⟨hr.1,hr.2,hda⟩]
   have hc1:=qhr (valD d) (by omega) (by omega)
   have hc2:=qhr (-valD d) (by omega) (by omega)
   by_cases hm:d.length<s.length
   ·rw [if_pos hm]
    rw [show (-valD d:Int)=0 - valD d by omega] at hc2 ⊢
    (repeat' ((conv=>whnf);first|refine Ob.auto ?_|refine zC 300 (hc2) ?_|(apply zB <;> intro hb <;> (try simp [-zd] at hb) <;> try (exfalso;omega))))
    all_goals first|exact Le.refl _
   ·rw [if_neg hm]
    (repeat' ((conv=>whnf);first|refine Ob.auto ?_|refine zC 300 (hc1) ?_|(apply zB <;> intro hb <;> (try simp [-zd] at hb) <;> try (exfalso;omega))))
    all_goals first|exact Le.refl _
 ·rw [if_neg (fun h=>hr ⟨h.1,h.2.1⟩)]
  refine zK {} 300 Tryz.func62 (fun c0 rdb=>?_)
  (repeat' ((conv=>whnf);first|refine Ob.auto ?_|refine zC 300 (ht) ?_|(apply zB <;> intro hb <;> (try simp [-zd] at hb) <;> try (exfalso;omega))))
  ·exact Le.refl _
  ·exfalso
   exact hr ⟨List.length_pos_iff.2 hb.1,by omega⟩
theorem jfy {s:List UInt8} {k:Int} (h0:0≤k) (h3:k≤3) (h:s=qcd k):qy s=k:=by
 subst h
 obtain rfl|rfl|rfl|rfl:k=0∨k=1∨k=2∨k=3:=by omega
 all_goals decide
theorem jup {s:List UInt8} (h:∀ j:Int,0≤j→j≤3→s≠qcd j):qy s=-1:=by
 unfold qy
 rw [if_neg (h 0 (by decide) (by decide)),if_neg (h 1 (by decide) (by decide)),if_neg (h 2 (by decide) (by decide)),if_neg (h 3 (by decide) (by decide))]
theorem juq (s:List UInt8):Con Tryz.prog 63 [.str s] (.tup [iv (if qy s<0 then 0 else qy s),.bool (decide (0≤qy s))]):=by
 refine zK {} 300 Tryz.func63 (fun c0 rdb=>?_)
 ((conv=>whnf);refine qm (fun _=>rfl) 300 1 (fun i:Nat=>[(4,iv i)]) (fun _=>[]) (fun i=>i≤4∧∀ j:Int,0≤j→j<i→s≠qcd j) (fun i=>4 - i) (0) (⟨by omega,fun j h0 h1=>by omega⟩) qa qa (fun _=>rfl) (by kernel_rfl) ?_;(conv=>whnf))
 intro i hi
 by_cases hi4:i<4
 ·(repeat' ((conv=>whnf);first|refine Ob.auto ?_|refine zC 300 (qwc (i:Int)) ?_|(apply zB <;> intro hb <;> (try simp [-zd] at hb) <;> try (exfalso;omega))))
  ·rw [jfy (k:=i) (by omega) (by omega) (by first|exact hb.symm|exact hb),if_neg (by omega),decide_eq_true (by omega)]
   exact Le.refl _
  ·((conv=>whnf);refine ⟨i+1,⟨by omega,fun j h0 h1=>?_⟩,⟨qa,qa⟩,⟨qa,qa⟩,?_⟩;(first|omega|(dsimp only;omega)|skip))
   ·by_cases hji:j=i
    ·subst hji
     first|exact hb|exact fun h=>hb h.symm
    ·exact hi.2 j h0 (by omega)
   ·omega
 ·(repeat' ((conv=>whnf);first|refine Ob.auto ?_|(apply zB <;> intro hb <;> (try simp [-zd] at hb) <;> try (exfalso;omega))))
  rw [jup (fun j h0 h1=>hi.2 j h0 (by omega))]
  exact Le.refl _
theorem qef (n j:Nat) (hj:j<n):(List.range n).getD j 0=j:=by
 rw [zd,List.getElem?_range hj];rfl
theorem jur (m:Md) (hM:ModOk m) (hn:NmOk m) (s:List UInt8) (k:Int):Con Tryz.prog 64 [m.av,.str s,iv k] (.tup [iv (if k=2∨k=3 then -1 else if qas m s<0 then 0 else qas m s),.bool (if k=2∨k=3 then s == [45] else decide (0≤qas m s))]):=by
 have hpl:m.procs.length≤1000000:=by have:=hM.sz.2.1;omega
 by_cases hk:k=2∨k=3
 ·rw [if_pos hk,if_pos hk]
  refine zK {} 300 Tryz.func64 (fun c0 rdb=>?_)
  (repeat' ((conv=>whnf);first|refine Ob.auto ?_|(apply zB <;> intro hb <;> (try simp [-zd] at hb) <;> try (exfalso;omega))))
  all_goals first|exact Le.refl _|(exfalso;omega)
 ·rw [if_neg hk,if_neg hk]
  refine zK {} 300 Tryz.func64 (fun c0 rdb=>?_)
  (repeat' ((conv=>whnf);first|refine Ob.auto ?_|(apply zB <;> intro hb <;> (try simp [-zd] at hb) <;> try (exfalso;omega))))
  all_goals try (exfalso;omega)
  ((conv=>whnf);refine qm (fun _=>rfl) 300 1 (fun i:Nat=>[(20,iv i)]) (fun _=>[]) (fun i=>i≤m.procs.length∧∀ j,j<i→(whoT m (j:Nat) == s)=false) (fun i=>m.procs.length - i) (0) (⟨Nat.zero_le _,fun j hj=>absurd hj (Nat.not_lt_zero j)⟩) qa qa (fun _=>rfl) (by kernel_rfl) ?_;(conv=>whnf))
  intro i hi
  by_cases hil:i<m.procs.length
  ·cases hw:whoT m (i:Int) == s with
   | true=>
    have hp:qas m s=i:=by
     unfold qas
     refine qed _ _ 0 i (by simpa using hil) (by rw [qef _ _ hil];exact hw) fun j hj=>?_
     rw [qef _ _ (by omega)];exact hi.2 j hj
    rw [hp,if_neg (by omega),decide_eq_true (by omega)]
    have hw:=eq_of_beq hw
    (repeat' ((conv=>whnf);first|refine Ob.auto ?_|refine zC 300 (qnz m hM hn (i:Int)) ?_|(apply zB <;> intro hb <;> (try simp [-zd] at hb) <;> try (exfalso;omega))))
    all_goals first|exact Le.refl _|(exfalso;first|exact hb hw|exact hb hw.symm|omega)
   | false=>
    (repeat' ((conv=>whnf);first|refine Ob.auto ?_|refine zC 300 (qnz m hM hn (i:Int)) ?_|(apply zB <;> intro hb <;> (try simp [-zd] at hb) <;> try (exfalso;omega))))
    ·exfalso;rw [hb] at hw;simp at hw
    ·((conv=>whnf);refine ⟨i+1,⟨by omega,fun j hj=>?_⟩,⟨qa,qa⟩,⟨qa,qa⟩,?_⟩;(first|omega|(dsimp only;omega)|skip))
     ·by_cases hji:j=i
      ·subst hji;exact hw
      ·exact hi.2 j (by omega)
     ·omega
  ·have hp:qas m s=-1:=by
    unfold qas
    refine qer _ _ 0 fun j hj=>?_
    have hj:j<m.procs.length:=by simpa using hj
    rw [qef _ _ hj];exact hi.2 j (by omega)
   rw [hp,if_pos (by decide),decide_eq_false (by decide)]
   (repeat' ((conv=>whnf);first|refine Ob.auto ?_|(apply zB <;> intro hb <;> (try simp [-zd] at hb) <;> try (exfalso;omega))))
   all_goals first|exact Le.refl _|(exfalso;omega)
set_option maxHeartbeats 8000000
def ChU (m:Md):Prop:=∀ i j,i<m.chans.length→j<m.chans.length→(m.chans.getD i ch0).name=(m.chans.getD j ch0).name→i=j
def evR (m:Md) (w:List (List UInt8)) (es:List Ev):Ev × Bool:=if EvIs m w es then (evT m w,true) else ({},false)
theorem jfz (c:UInt8):∀ (l:List UInt8),∀ x∈spL c l,x.length≤l.length
 | [],x,hx=>by simp [spL] at hx;subst hx;exact Nat.le_refl _
 | b::r,x,hx=>by
  have ih:=jfz c r
  unfold spL at hx
  split at hx
  ·rcases List.mem_cons.1 hx with rfl|hx
   ·exact Nat.zero_le _
   ·exact Nat.le_succ_of_le (ih x hx)
  ·split at hx
   ·rename_i h;exact absurd h (spL_ne c r)
   ·rename_i w ws h
    rw [h] at ih
    rcases List.mem_cons.1 hx with rfl|hx
    ·exact Nat.succ_le_succ (ih w (List.mem_cons_self ..))
    ·exact Nat.le_succ_of_le (ih x (List.mem_cons_of_mem _ hx))
theorem qwn (c:UInt8) (l:List UInt8) (k:Nat):((spL c l).getD k []).length≤l.length:=by
 by_cases h:k<(spL c l).length
 ·exact jfz c l _ (qj _ _ _ h)
 ·rw [zd,List.getElem?_eq_none (by omega)];exact Nat.zero_le _
theorem qrh (c:UInt8):∀ (l:List UInt8),(spL c l).length≤l.length+1
 | []=>by simp [spL]
 | b::r=>by
  have ih:=qrh c r
  unfold spL
  split
  ·simp;omega
  ·split
   ·simp
   ·rename_i w ws h;rw [h] at ih;simp at ih ⊢;omega
theorem qwo {s:List UInt8} (h:(numT s).2=true):s=Lib.itoa (numT s).1:=by
 unfold numT at h ⊢
 split
 ·rename_i hc
  rw [if_pos hc] at h
  exact (eq_of_beq h).symm
 ·rename_i hc
  rw [if_neg hc] at h
  cases h
theorem qwp {α:Type} {p:α→Bool} {l:List α} (d:α) {i:Nat} (h:Go.St.idx p l=i):i<l.length∧p (l.getD i d)=true:=by
 unfold Go.St.idx at h
 split at h
 ·rename_i k hk
  obtain rfl:k=i:=by omega
  obtain ⟨h1,h2,_⟩:=List.findIdx?_eq_some_iff_getElem.1 hk
  exact ⟨h1,by rw [zd,List.getElem?_eq_getElem h1];exact h2⟩
 ·omega
theorem jus {m:Md} (hU:ChU m) {i:Nat} (hi:i<m.chans.length) (s:List UInt8):(m.chans.getD i ch0).name=s↔qgn m s=i:=by
 constructor
 ·intro h
  refine qed _ _ ch0 i hi (by simp [-zd,h]) fun j hj=>?_
  rw [beq_eq_false_iff_ne]
  intro e
  have:=hU j i (by omega) hi (e.trans h.symm)
  omega
 ·intro h
  exact eq_of_beq (qwp ch0 h).2
theorem jga (m:Md) (hM:ModOk m) (hn:NmOk m) (hU:ChU m) (s:List UInt8) (hs:s.length≤1000000) (es:List Ev) (hes:es.length≤999999) (hr:RdOk m es) (hit:numT (Lib.itoa (es.length:Int))=((es.length:Int),true)) :
  Con Tryz.prog 36 [m.av,.str s,evsV es] (.tup [(evR m (spL 32 s) es).1.av,.bool (evR m (spL 32 s) es).2]):=by
 have hsp:=jun s 32 hs
 have hwl:=qwn 32 s
 have hwc:=qrh 32 s
 generalize spL 32 s=w at hsp hwl hwc ⊢
 have hno:¬ EvIs m w es→evR m w es=({},false):=fun h=>if_neg h
 have n0:=qwm (w.getD 0 []) (Nat.le_trans (hwl 0) hs)
 have n4:=qwm (w.getD 4 []) (Nat.le_trans (hwl 4) hs)
 have n6:=qwm (w.getD 6 []) (Nat.le_trans (hwl 6) hs)
 have k2:=juq (w.getD 2 [])
 have hk3:=qob (w.getD 2 [])
 have hcl:=qee (fun c:Ch=>c.name == w.getD 3 []) m.chans
 have hcs:m.chans.length≤800:=hM.sz.2.2.1
 by_cases hk:0≤qy (w.getD 2 [])
 ·rw [if_neg (by omega),decide_eq_true hk] at k2
  have p1:=jur m hM hn (w.getD 1 []) (qy (w.getD 2 []))
  have hP:((if qy (w.getD 2 [])=2∨qy (w.getD 2 [])=3 then w.getD 1 [] == [45] else decide (0≤qas m (w.getD 1 [])))=true)↔(if qy (w.getD 2 [])≤1 then 0≤qas m (w.getD 1 []) else w.getD 1 []=[45]):=by
   by_cases h:qy (w.getD 2 [])≤1
   ·rw [if_neg (by omega),if_pos h];simp
   ·rw [if_pos (by omega),if_neg h];simp
  have hP1:(if qy (w.getD 2 [])=2∨qy (w.getD 2 [])=3 then -1 else if qas m (w.getD 1 [])<0 then 0 else qas m (w.getD 1 []))=(if qy (w.getD 2 [])≤1 then max 0 (qas m (w.getD 1 [])) else -1):=by
   by_cases h:qy (w.getD 2 [])≤1
   ·rw [if_neg (by omega),if_pos h];split <;> omega
   ·rw [if_pos (by omega),if_neg h]
  rw [hP1] at p1
  generalize (if qy (w.getD 2 [])=2∨qy (w.getD 2 [])=3 then w.getD 1 [] == [45] else decide (0≤qas m (w.getD 1 [])))=P2 at p1 hP
  clear hP1
  obtain ⟨P1,hP1⟩:∃ P1,P1=(if qy (w.getD 2 [])≤1 then max 0 (qas m (w.getD 1 [])) else -1):=⟨_,rfl⟩
  rw [← hP1] at p1
  obtain ⟨K,hK⟩:∃ K,K=qy (w.getD 2 []):=⟨_,rfl⟩
  rw [← hK] at k2 p1
  have hw4:w.length=5∨w.length=7→4<w.length:=fun h=>by omega
  refine zK {} 300 Tryz.func36 (fun c0 rdb=>?_)
  (repeat' ((conv=>whnf);first|refine Ob.auto ?_|refine zC 300 (hsp) ?_|refine zC 300 (n0) ?_|refine zC 300 (k2) ?_|(apply zB <;> intro hb <;> (try simp [-zd] at hb) <;> try (exfalso;omega))))
  ·rw [hno fun h=>by have:=h.1;omega]
   exact Le.refl _
  ·rw [hno fun h=>by have h:=h.2.1;rw [h,hit] at hb;simp at hb]
   exact Le.refl _
  ·rw [hno fun h=>hb ?_]
   ·exact Le.refl _
   ·have h:=h.2.2.2.1
    rw [← hK] at h
    by_cases h5:w.length=5
    ·rw [h.2 h5,h5];rfl
    ·rw [beq_eq_false_iff_ne.2 (fun e=>h5 (h.1 e)),beq_eq_false_iff_ne.2 (by omega)]
  have hb0:=hb
  rename_i hbA hbB
  have hA:w.length=5∨w.length=7:=by omega
  have hK5:K=0↔w.length=5:=by
   by_cases h:K=0
   ·rw [h] at hb0;exact ⟨fun _=>by have:=hb0.symm;simp at this;omega,fun _=>h⟩
   ·rw [beq_eq_false_iff_ne.2 h] at hb0;exact ⟨fun e=>absurd e h,fun e=>by rw [e] at hb0;cases hb0⟩
  ((conv=>whnf);refine zR 300 ?_)
  (repeat' ((conv=>whnf);first|refine zO ?_|refine Ob.auto ?_|refine zX (p1) ?_|(apply zB <;> intro hb <;> (try simp [-zd] at hb) <;> try (exfalso;omega))))
  ·rw [hno fun h=>by have:=hP.2 h.2.2.2.2.1;rw [hb] at this;cases this]
   exact Le.refl _
  have hPT:=hP.1 hb
  obtain ⟨C,hC⟩:∃ C,C=qgn m (w.getD 3 []):=⟨_,rfl⟩
  have hCl:-1≤C∧C<m.chans.length:=by rw [hC];exact hcl
  have hB:w.getD 0 []=Lib.itoa (es.length:Int):=by have:=qwo hbB.1;rw [hbB.2] at this;exact this
  have hPr:P1=if K≤1 then qas m (w.getD 1 []) else -1:=by
   rw [hP1,hK]
   split
   ·rename_i h;rw [if_pos h] at hPT;omega
   ·rfl
  have hyes:(numT (w.getD 4 [])).2=true→0≤C→(K=0∨(w.getD 5 []=[111,102]∧(numT (w.getD 6 [])).2=true∧0≤(numT (w.getD 6 [])).1∧(numT (w.getD 6 [])).1<es.length ∧
    (es.getD (numT (w.getD 6 [])).1.toNat {}).ch=C∧(es.getD (numT (w.getD 6 [])).1.toNat {}).kind≠1∧(es.getD (numT (w.getD 6 [])).1.toNat {}).kind≠2))→
    evR m w es=(⟨K,0,P1,C,(numT (w.getD 4 [])).1,if K=0 then -1 else (numT (w.getD 6 [])).1⟩,true):=by
   intro a b c
   rw [hPr]
   subst hK
   subst hC
   exact if_pos ⟨hA,hB,hk,hK5,hPT,a,b,c⟩
  have hmem:0≤(numT (w.getD 6 [])).1→(numT (w.getD 6 [])).1<es.length→0≤(es.getD (numT (w.getD 6 [])).1.toNat {}).kind∧(es.getD (numT (w.getD 6 [])).1.toNat {}).kind≤3:=fun h1 h2=>
   hr.kind _ (qj es (numT (w.getD 6 [])).1.toNat {} (by omega))
  ((conv=>whnf);refine qm (fun _=>rfl) 300 1 (fun i:Nat=>[(80,iv i)]) (fun i=>[(2,.box 40 [iv K,iv 0,iv P1,iv (if C<i then C else -1),iv 0,iv (-1)])]) (fun i=>i≤m.chans.length) (fun i=>m.chans.length - i) (0) (Nat.zero_le _) qa qa (fun _=>rfl) (by kernel_rfl) ?_;(conv=>whnf))
  intro i hi
  by_cases hil:i<m.chans.length
  ·have hci:=jus hU hil (w.getD 3 [])
   rw [← hC] at hci
   (repeat' ((conv=>whnf);first|refine zO ?_|refine Ob.auto ?_|refine zD 300 ?_|(apply zB <;> intro hb <;> (try simp [-zd] at hb) <;> try (exfalso;omega))))
   ·have hci:=hci.1 (by first|exact hb|exact hb.symm)
    have e:(i:Int)=if C<((i+1:Nat):Int) then C else -1:=by rw [if_pos (by omega)];exact hci.symm
    ((conv=>whnf);refine ⟨i+1,by omega,⟨qa,⟨⟨rfl,Le.refl _,Le.refl _,Le.refl _,Le.of_eq (congrArg (AV.int _) e),Le.refl _,Le.refl _,trivial⟩,trivial⟩⟩,⟨qa,qa⟩,?_⟩;(first|omega|(dsimp only;omega)|skip))
   ·have hcn:C≠i:=fun e=>hb (hci.2 e)
    have e:(if C<(i:Int) then C else -1)=if C<((i+1:Nat):Int) then C else -1:=by split <;> split <;> omega
    ((conv=>whnf);refine ⟨i+1,by omega,⟨qa,⟨⟨rfl,Le.refl _,Le.refl _,Le.refl _,Le.of_eq (congrArg (AV.int _) e),Le.refl _,Le.refl _,trivial⟩,trivial⟩⟩,⟨qa,qa⟩,?_⟩;(first|omega|(dsimp only;omega)|skip))
  ·obtain rfl:i=m.chans.length:=by omega
   rw [if_pos hCl.2]
   (repeat' ((conv=>whnf);first|refine Ob.auto ?_|refine zC 300 (n4) ?_|refine zC 300 (n6) ?_|(apply zB <;> intro hb <;> (try simp [-zd] at hb) <;> try (exfalso;omega))))
   ·rw [hno fun h=>?_]
    ·exact Le.refl _
    ·have h1:=h.2.2.2.2.2.1
     have h2:=h.2.2.2.2.2.2.1
     rw [← hC] at h2
     rcases hb with hb|hb
     ·rw [hb] at h1;cases h1
     ·omega
   ·rename_i h4
    rw [hyes h4.1 h4.2 (.inl hb),if_pos hb]
    exact Le.refl _
   ·rw [hno fun h=>?_]
    ·exact Le.refl _
    ·have h1:=h.2.2.2.2.2.2.2
     rw [← hK] at h1
     rcases h1 with h1|⟨a,b,c,d,_⟩
     ·rename_i hk0;exact hk0 h1
     ·rcases hb with ((hb|hb)|hb)|hb
      ·exact hb a
      ·rw [hb] at b;cases b
      ·omega
      ·omega
   ·rename_i h6
    have hme:=hmem h6.1.2 h6.2
    rw [hno fun h=>?_]
    ·exact Le.refl _
    ·have h1:=h.2.2.2.2.2.2.2
     rw [← hK,← hC] at h1
     rcases h1 with h1|⟨_,_,_,_,a,b,c⟩
     ·rename_i hk0;exact hk0 h1
     ·rcases hb with hb|hb
      ·exact hb a
      ·omega
   ·rename_i h4 hk0 h6
    have hme:=hmem h6.1.2 h6.2
    rw [hyes h4.1 h4.2 (.inr ⟨h6.1.1.1,h6.1.1.2,h6.1.2,h6.2,hb.1,by omega,by omega⟩),if_neg hk0]
    exact Le.refl _
 ·rw [if_pos (by omega),decide_eq_false hk] at k2
  rw [hno fun h=>hk h.2.2.1]
  refine zK {} 300 Tryz.func36 (fun c0 rdb=>?_)
  (repeat' ((conv=>whnf);first|refine Ob.auto ?_|refine zC 300 (hsp) ?_|refine zC 300 (n0) ?_|refine zC 300 (k2) ?_|(apply zB <;> intro hb <;> (try simp [-zd] at hb) <;> try (exfalso;omega))))
  all_goals first|exact Le.refl _|(exfalso;simp at hb;done)
theorem jgb {s:List UInt8} {k:Int} (h0:0≤k) (h3:k≤3):qcd k=s↔qy s=k:=by
 constructor
 ·intro h;exact jfy h0 h3 h.symm
 ·intro h
  unfold qy at h
  split at h
  ·rename_i e;rw [← h,e]
  split at h
  ·rename_i e;rw [← h,e]
  split at h
  ·rename_i e;rw [← h,e]
  split at h
  ·rename_i e;rw [← h,e]
  ·omega
end Go.Proofs.YtcfllgdfhfcicaaGreatDoor
end
section
namespace Go.Proofs.YtcfllgdfhfcicaaGreatDoor
open Go Go.Sx Go.RowKit Go.St Go.Sp
set_option maxRecDepth 100000
theorem jgc (n:Int) (h0:-999999≤n) (h1:n≤999999):numT (Lib.itoa n)=(n,true):=by
 have key:∀ u:Nat,u≤999999→(Lib.decDigits u).length≤6:=fun u hu=>jft 5 u (by omega)
 by_cases hn:n<0
 ·have hp:=qwi n.natAbs
  have hl:=key n.natAbs (by omega)
  have e:Lib.itoa n=45::Lib.decDigits n.natAbs:=by unfold Lib.itoa;rw [if_pos hn]
  have et:Lib.trimPrefix (Lib.itoa n) [45]=Lib.decDigits n.natAbs:=by rw [e];simp [Lib.trimPrefix,Lib.hasPrefix,List.isPrefixOf]
  unfold numT
  rw [et,if_pos ⟨hp.2.2,hl,hp.1⟩,if_pos (by rw [e];simp),hp.2.1,show -((n.natAbs:Nat):Int)=n by omega]
  simp
 ·have hp:=qwi n.toNat
  have hl:=key n.toNat (by omega)
  have e:Lib.itoa n=Lib.decDigits n.toNat:=by unfold Lib.itoa;rw [if_neg hn]
  have hh:Lib.hasPrefix (Lib.decDigits n.toNat) [45]=false:=by
   unfold Lib.hasPrefix
   cases hd:Lib.decDigits n.toNat with
   | nil=>rw [hd] at hp;simp at hp
   | cons b r=>
    have hb:=List.all_eq_true.1 hp.1 b (by rw [hd];exact List.mem_cons_self ..)
    have hb:=of_decide_eq_true hb
    have:b≠45:=fun h=>by rw [h] at hb;simp at hb
    simp [List.isPrefixOf,Ne.symm this]
  have et:Lib.trimPrefix (Lib.itoa n) [45]=Lib.decDigits n.toNat:=by unfold Lib.trimPrefix;rw [e,hh];rfl
  unfold numT
  rw [et,if_pos ⟨hp.2.2,hl,hp.1⟩,if_neg (by rw [e];omega),hp.2.1,show ((n.toNat:Nat):Int)=n by omega]
  simp
end Go.Proofs.YtcfllgdfhfcicaaGreatDoor
end
section
namespace Go.Proofs.YtcfllgdfhfcicaaGreatDoor
open List renaming getD_eq_getElem?_getD → zd
open Go Go.Sx Go.RowKit Go.St Go.Sp
set_option maxRecDepth 100000
set_option maxHeartbeats 8000000
theorem jut (m:Md) (hM:ModOk m) (hn:NmOk m) (hU:ChU m) (s:List UInt8) (hs:s.length≤100000) :
  Con Tryz.prog 15 [m.av,.str s] (.tup [evsV ((qir m s).getD []),.bool (qir m s).isSome]):=by
 have h10:Con Tryz.prog 35 [.str s,.str [10]] (.tup [.str (Lib.cut s [10]).1,.str (Lib.cut s [10]).2.1,.bool (Lib.cut s [10]).2.2]):=jfx s 10 (by omega)
 clear h10
 refine zK {owns:=[(6,(40,6))]} 300 Tryz.func15 (fun c0 rdb=>?_)
 ((conv=>whnf);refine qm (fun _=>rfl) 300 1 (fun g:List UInt8 × List Ev=>[(1,.str g.1),(6,.own 1 0 0 g.2.length)]) (fun g=>[(1,.row [] 40 6 0 g.2.length (encL Ev.cells {} g.2))]) (fun g=>goL m (spL 10 g.1) g.2=qir m s∧g.2.length+g.1.length≤s.length∧RdOk m g.2) (fun g=>g.1.length) ((s,[])) (⟨rfl,by simp,⟨fun _ h=>absurd h List.not_mem_nil,fun _ h=>absurd h List.not_mem_nil⟩⟩) qa qa (fun _=>rfl) (by kernel_rfl) ?_;(conv=>whnf))
 intro g hg
 obtain ⟨r,es⟩:=g
 obtain ⟨hgo,hlen,hrd⟩:=hg
 dsimp only at hgo hlen hrd
 by_cases hr0:r=[]
 ·subst hr0
  (repeat' ((conv=>whnf);first|refine Ob.auto ?_|(apply zB <;> intro hb <;> (try simp [-zd] at hb) <;> try (exfalso;omega))))
  rw [← hgo]
  exact Le.refl _
 ·have hrl:0<r.length:=List.length_pos_iff.2 hr0
  have hc:=jfx r 10 (by omega)
  rcases jfu 10 r with hnl|⟨a,b,hab,hnl⟩
  ·rw [juj hnl] at hc
   have he:=jga m hM hn hU r (by omega) es (by omega) hrd (jgc _ (by omega) (by omega))
   rw [← hgo,qwk m es hnl hr0]
   obtain ⟨q,hq⟩:∃ q,q=evR m (spL 32 r) es:=⟨_,rfl⟩
   rw [← hq] at he
   obtain ⟨e0,k0⟩:=q
   dsimp only at he hc
   (repeat' ((conv=>whnf);first|refine Ob.auto ?_|refine zC 300 (hc) ?_|refine zE 300 (he) ?_|(apply zB <;> intro hb <;> (try simp [-zd] at hb) <;> try (exfalso;omega))))
   all_goals first|exact absurd hb hr0|exact Le.tup ⟨Le.nils _ _,Le.refl _,trivial⟩
  ·rw [hab,juk b hnl,← hab] at hc
   have hal:a.length+b.length+1=r.length:=by rw [hab];simp;omega
   have he:=jga m hM hn hU a (by omega) es (by omega) hrd (jgc _ (by omega) (by omega))
   rw [hab,qwl m b es hnl] at hgo
   by_cases hev:EvIs m (spL 32 a) es
   ·have hs1:evF m (spL 32 a) es=some (evT m (spL 32 a)):=if_pos hev
    rw [hs1] at hgo
    rw [show evR m (spL 32 a) es=(evT m (spL 32 a),true) from if_pos hev] at he
    have hev':=jfv hev
    generalize evT m (spL 32 a)=e at *
    dsimp only at he hc
    (repeat' ((conv=>whnf);first|refine Ob.auto ?_|refine zC 300 (hc) ?_|refine zE 300 (he) ?_|(apply zB <;> intro hb <;> (try simp [-zd] at hb) <;> try (exfalso;omega))))
    all_goals try exact absurd hb hr0
    ((conv=>whnf);refine ⟨(b,es++[e]),⟨hgo,by simp only [List.length_append,List.length_singleton];omega,⟨fun x hx=>?_,fun x hx=>?_⟩⟩,⟨⟨Le.refl _,qvx rfl 1,trivial⟩,⟨qnu Ev.cells {} rfl rfl,trivial⟩⟩,⟨qa,qa⟩,?_⟩;(first|omega|(dsimp only;omega)|skip))
    ·rcases List.mem_append.1 hx with hx|hx
     ·exact hrd.kind x hx
     ·rw [List.mem_singleton.1 hx];exact hev'.1
    ·rcases List.mem_append.1 hx with hx|hx
     ·exact hrd.chn x hx
     ·rw [List.mem_singleton.1 hx];exact hev'.2
    ·show b.length<r.length
     omega
   ·have hs1:evF m (spL 32 a) es=none:=if_neg hev
    rw [hs1] at hgo
    rw [show evR m (spL 32 a) es=({},false) from if_neg hev] at he
    rw [← hgo]
    dsimp only at he hc
    (repeat' ((conv=>whnf);first|refine Ob.auto ?_|refine zC 300 (hc) ?_|refine zE 300 (he) ?_|(apply zB <;> intro hb <;> (try simp [-zd] at hb) <;> try (exfalso;omega))))
    all_goals first|exact absurd hb hr0|exact Le.tup ⟨Le.nils _ _,Le.refl _,trivial⟩
end Go.Proofs.YtcfllgdfhfcicaaGreatDoor
end
