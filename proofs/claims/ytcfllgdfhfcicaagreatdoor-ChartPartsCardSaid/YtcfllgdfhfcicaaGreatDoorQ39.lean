/- Some texts of the library, one behind the other. -/
import Derived.Test.YtcfllgdfhfcicaaGreatDoorQ38
import Derived.Test.YtcfllgdfhfcicaaGreatDoorQ37
import Derived.Test.YtcfllgdfhfcicaaGreatDoorQ2
set_option linter.unusedSimpArgs false
set_option linter.unusedVariables false
section
namespace Go.Proofs.YtcfllgdfhfcicaaGreatDoor
open List renaming getD_eq_getElem?_getD → zd
open Go Go.Sx Go.RowKit Go.St Go.Sp
set_option maxRecDepth 100000
set_option maxHeartbeats 8000000
def ChU (m:Md):Prop:=∀ i j,i<m.chans.length→j<m.chans.length→(m.chans.getD i ch0).name=(m.chans.getD j ch0).name→i=j
def evR (m:Md) (w:List (List UInt8)) (es:List Ev):Ev × Bool:=if EvIs m w es then (evT m w,true) else ({},false)
theorem jhu (c:UInt8):∀ (l:List UInt8),∀ x∈spL c l,x.length≤l.length
 | [],x,hx=>by simp [spL] at hx;subst hx;exact zk _
 | b::r,x,hx=>by
  have ih:=jhu c r
  unfold spL at hx
  split at hx
  ·rcases List.mem_cons.1 hx with rfl|hx
   ·exact zx _
   ·exact Nat.le_succ_of_le (ih x hx)
  ·split at hx
   ·rename_i h;exact absurd h (spL_ne c r)
   ·rename_i w ws h
    rw [h] at ih
    rcases List.mem_cons.1 hx with rfl|hx
    ·exact Nat.succ_le_succ (ih w (zn ..))
    ·exact Nat.le_succ_of_le (ih x (zv _ hx))
theorem jxt (c:UInt8) (l:List UInt8) (k:Nat):((spL c l).getD k []).length≤l.length:=by
 by_cases h:k<(spL c l).length
 ·exact jhu c l _ (qe _ _ _ h)
 ·rw [zd,xe (by omega)];exact zx _
theorem jhv (c:UInt8):∀ (l:List UInt8),(spL c l).length≤l.length+1
 | []=>by simp [spL]
 | b::r=>by
  have ih:=jhv c r
  unfold spL
  split
  ·simp;omega
  ·split
   ·simp
   ·rename_i w ws h;rw [h] at ih;simp at ih ⊢;omega
theorem jxu {s:List UInt8} (h:(numT s).2=true):s=Lib.itoa (numT s).1:=by
 unfold numT at h ⊢
 split
 ·rename_i hc
  rw [zb hc] at h
  exact (eq_of_beq h).symm
 ·rename_i hc
  rw [za hc] at h
  cases h
theorem jxv {α:Type} {p:α→Bool} {l:List α} (d:α) {i:Nat} (h:Go.St.idx p l=i):i<l.length∧p (l.getD i d)=true:=by
 unfold Go.St.idx at h
 split at h
 ·rename_i k hk
  obtain rfl:k=i:=by omega
  obtain ⟨h1,h2,_⟩:=List.findIdx?_eq_some_iff_getElem.1 hk
  exact ⟨h1,by rw [zd,ze h1];exact h2⟩
 ·omega
theorem jhw {m:Md} (hU:ChU m) {i:Nat} (hi:i<m.chans.length) (s:List UInt8):(m.chans.getD i ch0).name=s↔qge m s=i:=by
 constructor
 ·intro h
  refine qdt _ _ ch0 i hi (by simp [-zd,h]) fun j hj=>?_
  rw [beq_eq_false_iff_ne]
  intro e
  have:=hU j i (by omega) hi (e.trans h.symm)
  omega
 ·intro h
  exact eq_of_beq (jxv ch0 h).2
theorem jhx (m:Md) (hM:ModOk m) (hn:NmOk m) (hU:ChU m) (s:List UInt8) (hs:s.length≤1000000) (es:List Ev) (hes:es.length≤999999) (hr:RdOk m es) (hit:numT (Lib.itoa (es.length:Int))=((es.length:Int),true)) :
  Con Tryz.prog 36 [m.av,.str s,evsV es] (.tup [(evR m (spL 32 s) es).1.av,.bool (evR m (spL 32 s) es).2]):=by
 have hsp:=jxo s 32 hs
 have hwl:=jxt 32 s
 have hwc:=jhv 32 s
 generalize spL 32 s=w at hsp hwl hwc ⊢
 have hno:¬ EvIs m w es→evR m w es=({},false):=fun h=>za h
 have n0:=qyc (w.getD 0 []) (xc (hwl 0) hs)
 have n4:=qyc (w.getD 4 []) (xc (hwl 4) hs)
 have n6:=qyc (w.getD 6 []) (xc (hwl 6) hs)
 have k2:=jxr (w.getD 2 [])
 have hk3:=jhq (w.getD 2 [])
 have hcl:=qgw (fun c:Ch=>c.name == w.getD 3 []) m.chans
 have hcs:m.chans.length≤800:=hM.sz.2.2.1
 by_cases hk:0≤jb (w.getD 2 [])
 ·rw [za (by omega),zo hk] at k2
  have p1:=jxs m hM hn (w.getD 1 []) (jb (w.getD 2 []))
  have hP:((if jb (w.getD 2 [])=2∨jb (w.getD 2 [])=3 then w.getD 1 [] == [45] else decide (0≤qbk m (w.getD 1 [])))=true)↔(if jb (w.getD 2 [])≤1 then 0≤qbk m (w.getD 1 []) else w.getD 1 []=[45]):=by
   by_cases h:jb (w.getD 2 [])≤1
   ·rw [za (by omega),zb h];simp
   ·rw [zb (by omega),za h];simp
  have hP1:(if jb (w.getD 2 [])=2∨jb (w.getD 2 [])=3 then -1 else if qbk m (w.getD 1 [])<0 then 0 else qbk m (w.getD 1 []))=(if jb (w.getD 2 [])≤1 then max 0 (qbk m (w.getD 1 [])) else -1):=by
   by_cases h:jb (w.getD 2 [])≤1
   ·rw [za (by omega),zb h];split <;> omega
   ·rw [zb (by omega),za h]
  rw [hP1] at p1
  generalize (if jb (w.getD 2 [])=2∨jb (w.getD 2 [])=3 then w.getD 1 [] == [45] else decide (0≤qbk m (w.getD 1 [])))=P2 at p1 hP
  clear hP1
  obtain ⟨P1,hP1⟩:∃ P1,P1=(if jb (w.getD 2 [])≤1 then max 0 (qbk m (w.getD 1 [])) else -1):=⟨_,rfl⟩
  rw [← hP1] at p1
  obtain ⟨K,hK⟩:∃ K,K=jb (w.getD 2 []):=⟨_,rfl⟩
  rw [← hK] at k2 p1
  have hw4:w.length=5∨w.length=7→4<w.length:=fun h=>by omega
  refine zK {} 300 Tryz.func36 (fun c0 rdb=>?_)
  (repeat' ((conv=>whnf);first|refine Ob.auto ?_|refine zC 300 (hsp) ?_|refine zC 300 (n0) ?_|refine zC 300 (k2) ?_|(apply zB <;> intro hb <;> (try simp [-zd] at hb) <;> try (exfalso;omega))))
  ·rw [hno fun h=>by have:=h.1;omega]
   exact Le.refl _
  ·rw [hno fun h=>by have h:=h.2.1;rw [h,hit] at hb;simp at hb]
   exact Le.refl _
  ·rw [hno fun h=>hb ?_]
   ·exact Le.refl _
   ·have h:=h.2.2.2.1
    rw [← hK] at h
    by_cases h5:w.length=5
    ·rw [h.2 h5,h5];rfl
    ·rw [beq_eq_false_iff_ne.2 (fun e=>h5 (h.1 e)),beq_eq_false_iff_ne.2 (by omega)]
  have hb0:=hb
  rename_i hbA hbB
  have hA:w.length=5∨w.length=7:=by omega
  have hK5:K=0↔w.length=5:=by
   by_cases h:K=0
   ·rw [h] at hb0;exact ⟨fun _=>by have:=hb0.symm;simp at this;omega,fun _=>h⟩
   ·rw [beq_eq_false_iff_ne.2 h] at hb0;exact ⟨fun e=>absurd e h,fun e=>by rw [e] at hb0;cases hb0⟩
  ((conv=>whnf);refine zR 300 ?_)
  (repeat' ((conv=>whnf);first|refine zO ?_|refine Ob.auto ?_|refine zX (p1) ?_|(apply zB <;> intro hb <;> (try simp [-zd] at hb) <;> try (exfalso;omega))))
  ·rw [hno fun h=>by have:=hP.2 h.2.2.2.2.1;rw [hb] at this;cases this]
   exact Le.refl _
  have hPT:=hP.1 hb
  obtain ⟨C,hC⟩:∃ C,C=qge m (w.getD 3 []):=⟨_,rfl⟩
  have hCl:-1≤C∧C<m.chans.length:=by rw [hC];exact hcl
  have hB:w.getD 0 []=Lib.itoa (es.length:Int):=by have:=jxu hbB.1;rw [hbB.2] at this;exact this
  have hPr:P1=if K≤1 then qbk m (w.getD 1 []) else -1:=by
   rw [hP1,hK]
   split
   ·rename_i h;rw [zb h] at hPT;omega
   ·rfl
  have hyes:(numT (w.getD 4 [])).2=true→0≤C→(K=0∨(w.getD 5 []=[111,102]∧(numT (w.getD 6 [])).2=true∧0≤(numT (w.getD 6 [])).1∧(numT (w.getD 6 [])).1<es.length ∧
    (es.getD (numT (w.getD 6 [])).1.toNat {}).ch=C∧(es.getD (numT (w.getD 6 [])).1.toNat {}).kind≠1∧(es.getD (numT (w.getD 6 [])).1.toNat {}).kind≠2))→
    evR m w es=(⟨K,0,P1,C,(numT (w.getD 4 [])).1,if K=0 then -1 else (numT (w.getD 6 [])).1⟩,true):=by
   intro a b c
   rw [hPr]
   subst hK
   subst hC
   exact zb ⟨hA,hB,hk,hK5,hPT,a,b,c⟩
  have hmem:0≤(numT (w.getD 6 [])).1→(numT (w.getD 6 [])).1<es.length→0≤(es.getD (numT (w.getD 6 [])).1.toNat {}).kind∧(es.getD (numT (w.getD 6 [])).1.toNat {}).kind≤3:=fun h1 h2=>
   hr.kind _ (qe es (numT (w.getD 6 [])).1.toNat {} (by omega))
  ((conv=>whnf);refine qo (fun _=>rfl) 300 1 (fun i:Nat=>[(80,iv i)]) (fun i=>[(2,.box 40 [iv K,iv 0,iv P1,iv (if C<i then C else -1),iv 0,iv (-1)])]) (fun i=>i≤m.chans.length) (fun i=>m.chans.length - i) (0) (zx _) qa qa (fun _=>rfl) (by kernel_rfl) ?_;(conv=>whnf))
  intro i hi
  by_cases hil:i<m.chans.length
  ·have hci:=jhw hU hil (w.getD 3 [])
   rw [← hC] at hci
   (repeat' ((conv=>whnf);first|refine zO ?_|refine Ob.auto ?_|refine zD 300 ?_|(apply zB <;> intro hb <;> (try simp [-zd] at hb) <;> try (exfalso;omega))))
   ·have hci:=hci.1 (by first|exact hb|exact hb.symm)
    have e:(i:Int)=if C<((i+1:Nat):Int) then C else -1:=by rw [zb (by omega)];exact hci.symm
    ((conv=>whnf);refine ⟨i+1,by omega,⟨qa,⟨⟨rfl,Le.refl _,Le.refl _,Le.refl _,Le.of_eq (congrArg (AV.int _) e),Le.refl _,Le.refl _,trivial⟩,trivial⟩⟩,⟨qa,qa⟩,?_⟩;(first|omega|(dsimp only;omega)|skip))
   ·have hcn:C≠i:=fun e=>hb (hci.2 e)
    have e:(if C<(i:Int) then C else -1)=if C<((i+1:Nat):Int) then C else -1:=by split <;> split <;> omega
    ((conv=>whnf);refine ⟨i+1,by omega,⟨qa,⟨⟨rfl,Le.refl _,Le.refl _,Le.refl _,Le.of_eq (congrArg (AV.int _) e),Le.refl _,Le.refl _,trivial⟩,trivial⟩⟩,⟨qa,qa⟩,?_⟩;(first|omega|(dsimp only;omega)|skip))
  ·obtain rfl:i=m.chans.length:=by omega
   rw [zb hCl.2]
   (repeat' ((conv=>whnf);first|refine Ob.auto ?_|refine zC 300 (n4) ?_|refine zC 300 (n6) ?_|(apply zB <;> intro hb <;> (try simp [-zd] at hb) <;> try (exfalso;omega))))
   ·rw [hno fun h=>?_]
    ·exact Le.refl _
    ·have h1:=h.2.2.2.2.2.1
     have h2:=h.2.2.2.2.2.2.1
     rw [← hC] at h2
     rcases hb with hb|hb
     ·rw [hb] at h1;cases h1
     ·omega
   ·rename_i h4
    rw [hyes h4.1 h4.2 (.inl hb),zb hb]
    exact Le.refl _
   ·rw [hno fun h=>?_]
    ·exact Le.refl _
    ·have h1:=h.2.2.2.2.2.2.2
     rw [← hK] at h1
     rcases h1 with h1|⟨a,b,c,d,_⟩
     ·rename_i hk0;exact hk0 h1
     ·rcases hb with ((hb|hb)|hb)|hb
      ·exact hb a
      ·rw [hb] at b;cases b
      ·omega
      ·omega
   ·rename_i h6
    have hme:=hmem h6.1.2 h6.2
    rw [hno fun h=>?_]
    ·exact Le.refl _
    ·have h1:=h.2.2.2.2.2.2.2
     rw [← hK,← hC] at h1
     rcases h1 with h1|⟨_,_,_,_,a,b,c⟩
     ·rename_i hk0;exact hk0 h1
     ·rcases hb with hb|hb
      ·exact hb a
      ·omega
   ·rename_i h4 hk0 h6
    have hme:=hmem h6.1.2 h6.2
    rw [hyes h4.1 h4.2 (.inr ⟨h6.1.1.1,h6.1.1.2,h6.1.2,h6.2,hb.1,by omega,by omega⟩),za hk0]
    exact Le.refl _
 ·rw [zb (by omega),xx hk] at k2
  rw [hno fun h=>hk h.2.2.1]
  refine zK {} 300 Tryz.func36 (fun c0 rdb=>?_)
  (repeat' ((conv=>whnf);first|refine Ob.auto ?_|refine zC 300 (hsp) ?_|refine zC 300 (n0) ?_|refine zC 300 (k2) ?_|(apply zB <;> intro hb <;> (try simp [-zd] at hb) <;> try (exfalso;omega))))
  all_goals first|exact Le.refl _|(exfalso;simp at hb;done)
end Go.Proofs.YtcfllgdfhfcicaaGreatDoor
end
section
namespace Go.Proofs.YtcfllgdfhfcicaaGreatDoor
open Go Go.Sx Go.RowKit Go.St Go.Sp
set_option maxRecDepth 100000
theorem qsw (n:Int) (h0:-999999≤n) (h1:n≤999999):numT (Lib.itoa n)=(n,true):=by
 have key:∀ u:Nat,u≤999999→(Lib.decDigits u).length≤6:=fun u hu=>jhp 5 u (by omega)
 by_cases hn:n<0
 ·have hp:=qim n.natAbs
  have hl:=key n.natAbs (by omega)
  have e:Lib.itoa n=45::Lib.decDigits n.natAbs:=by unfold Lib.itoa;rw [zb hn]
  have et:Lib.trimPrefix (Lib.itoa n) [45]=Lib.decDigits n.natAbs:=by rw [e];simp [Lib.trimPrefix,Lib.hasPrefix,List.isPrefixOf]
  unfold numT
  rw [et,zb ⟨hp.2.2,hl,hp.1⟩,zb (by rw [e];simp),hp.2.1,show -((n.natAbs:Nat):Int)=n by omega]
  simp
 ·have hp:=qim n.toNat
  have hl:=key n.toNat (by omega)
  have e:Lib.itoa n=Lib.decDigits n.toNat:=by unfold Lib.itoa;rw [za hn]
  have hh:Lib.hasPrefix (Lib.decDigits n.toNat) [45]=false:=by
   unfold Lib.hasPrefix
   cases hd:Lib.decDigits n.toNat with
   | nil=>rw [hd] at hp;simp at hp
   | cons b r=>
    have hb:=List.all_eq_true.1 hp.1 b (by rw [hd];exact zn ..)
    have hb:=zi hb
    have:b≠45:=fun h=>by rw [h] at hb;simp at hb
    simp [List.isPrefixOf,Ne.symm this]
  have et:Lib.trimPrefix (Lib.itoa n) [45]=Lib.decDigits n.toNat:=by unfold Lib.trimPrefix;rw [e,hh];rfl
  unfold numT
  rw [et,zb ⟨hp.2.2,hl,hp.1⟩,za (by rw [e];omega),hp.2.1,show ((n.toNat:Nat):Int)=n by omega]
  simp
end Go.Proofs.YtcfllgdfhfcicaaGreatDoor
end
section
namespace Go.Proofs.YtcfllgdfhfcicaaGreatDoor
open List renaming getD_eq_getElem?_getD → zd
open Go Go.Sx Go.RowKit Go.St Go.Sp
set_option maxRecDepth 100000
set_option maxHeartbeats 8000000
theorem jhy (m:Md) (hM:ModOk m) (hn:NmOk m) (hU:ChU m) (s:List UInt8) (hs:s.length≤100000) :
  Con Tryz.prog 15 [m.av,.str s] (.tup [evsV ((qkz m s).getD []),.bool (qkz m s).isSome]):=by
 have h10:Con Tryz.prog 35 [.str s,.str [10]] (.tup [.str (Lib.cut s [10]).1,.str (Lib.cut s [10]).2.1,.bool (Lib.cut s [10]).2.2]):=jhs s 10 (by omega)
 clear h10
 refine zK {owns:=[(6,(40,6))]} 300 Tryz.func15 (fun c0 rdb=>?_)
 ((conv=>whnf);refine qo (fun _=>rfl) 300 1 (fun g:List UInt8 × List Ev=>[(1,.str g.1),(6,.own 1 0 0 g.2.length)]) (fun g=>[(1,.row [] 40 6 0 g.2.length (encL Ev.cells {} g.2))]) (fun g=>goL m (spL 10 g.1) g.2=qkz m s∧g.2.length+g.1.length≤s.length∧RdOk m g.2) (fun g=>g.1.length) ((s,[])) (⟨rfl,by simp,⟨fun _ h=>absurd h zbp,fun _ h=>absurd h zbp⟩⟩) qa qa (fun _=>rfl) (by kernel_rfl) ?_;(conv=>whnf))
 intro g hg
 obtain ⟨r,es⟩:=g
 obtain ⟨hgo,hlen,hrd⟩:=hg
 dsimp only at hgo hlen hrd
 by_cases hr0:r=[]
 ·subst hr0
  (repeat' ((conv=>whnf);first|refine Ob.auto ?_|(apply zB <;> intro hb <;> (try simp [-zd] at hb) <;> try (exfalso;omega))))
  rw [← hgo]
  exact Le.refl _
 ·have hrl:0<r.length:=List.length_pos_iff.2 hr0
  have hc:=jhs r 10 (by omega)
  rcases jxk 10 r with hnl|⟨a,b,hab,hnl⟩
  ·rw [jxd hnl] at hc
   have he:=jhx m hM hn hU r (by omega) es (by omega) hrd (qsw _ (by omega) (by omega))
   rw [← hgo,jxj m es hnl hr0]
   obtain ⟨q,hq⟩:∃ q,q=evR m (spL 32 r) es:=⟨_,rfl⟩
   rw [← hq] at he
   obtain ⟨e0,k0⟩:=q
   dsimp only at he hc
   (repeat' ((conv=>whnf);first|refine Ob.auto ?_|refine zC 300 (hc) ?_|refine zE 300 (he) ?_|(apply zB <;> intro hb <;> (try simp [-zd] at hb) <;> try (exfalso;omega))))
   all_goals first|exact absurd hb hr0|exact Le.tup ⟨Le.nils _ _,Le.refl _,trivial⟩
  ·rw [hab,jxe b hnl,← hab] at hc
   have hal:a.length+b.length+1=r.length:=by rw [hab];simp;omega
   have he:=jhx m hM hn hU a (by omega) es (by omega) hrd (qsw _ (by omega) (by omega))
   rw [hab,qyb m b es hnl] at hgo
   by_cases hev:EvIs m (spL 32 a) es
   ·have hs1:evF m (spL 32 a) es=some (evT m (spL 32 a)):=zb hev
    rw [hs1] at hgo
    rw [show evR m (spL 32 a) es=(evT m (spL 32 a),true) from zb hev] at he
    have hev':=jxl hev
    generalize evT m (spL 32 a)=e at *
    dsimp only at he hc
    (repeat' ((conv=>whnf);first|refine Ob.auto ?_|refine zC 300 (hc) ?_|refine zE 300 (he) ?_|(apply zB <;> intro hb <;> (try simp [-zd] at hb) <;> try (exfalso;omega))))
    all_goals try exact absurd hb hr0
    ((conv=>whnf);refine ⟨(b,es++[e]),⟨hgo,by simp only [zg,zq];omega,⟨fun x hx=>?_,fun x hx=>?_⟩⟩,⟨⟨Le.refl _,qjn rfl 1,trivial⟩,⟨qhg Ev.cells {} rfl rfl,trivial⟩⟩,⟨qa,qa⟩,?_⟩;(first|omega|(dsimp only;omega)|skip))
    ·rcases List.mem_append.1 hx with hx|hx
     ·exact hrd.kind x hx
     ·rw [List.mem_singleton.1 hx];exact hev'.1
    ·rcases List.mem_append.1 hx with hx|hx
     ·exact hrd.chn x hx
     ·rw [List.mem_singleton.1 hx];exact hev'.2
    ·show b.length<r.length
     omega
   ·have hs1:evF m (spL 32 a) es=none:=za hev
    rw [hs1] at hgo
    rw [show evR m (spL 32 a) es=({},false) from za hev] at he
    rw [← hgo]
    dsimp only at he hc
    (repeat' ((conv=>whnf);first|refine Ob.auto ?_|refine zC 300 (hc) ?_|refine zE 300 (he) ?_|(apply zB <;> intro hb <;> (try simp [-zd] at hb) <;> try (exfalso;omega))))
    all_goals first|exact absurd hb hr0|exact Le.tup ⟨Le.nils _ _,Le.refl _,trivial⟩
end Go.Proofs.YtcfllgdfhfcicaaGreatDoor
end
section
namespace Go.Proofs.YtcfllgdfhfcicaaGreatDoor
open Go Go.Sx Go.RowKit Go.St Go.Sp
set_option maxRecDepth 100000
set_option maxHeartbeats 8000000



def qhi (c:UInt8):List (List UInt8)→List UInt8
 | []=>[]
 | [w]=>w
 | w::w'::r=>w++c::qhi c (w'::r)
end Go.Proofs.YtcfllgdfhfcicaaGreatDoor
end
section
namespace Go.Proofs.YtcfllgdfhfcicaaGreatDoor
open Go Go.Sx Go.RowKit Go.St
set_option maxRecDepth 100000
theorem jxw (l:List Nd) (item kind:Int) (out:List (List UInt8)) (i:Nat) (s:List UInt8) (h:inF out s=true):inF (qjg l item kind out i) s=true:=by
 unfold qjg
 split
 ·split
  ·split
   ·exact h
   ·unfold inF at h ⊢;rw [List.any_append,h];rfl
  ·exact h
 ·exact h
theorem jhz (l:List Nd) (item kind:Int) {j:Nat} (hk:(l.getD j nd0).kind=kind) (hi:itemF l j=j∨itemF l j=item):∀ i,j<i→inF (qfi l item kind i) (qbx (l.getD j nd0))=true
 | 0,h=>absurd h (zh j)
 | i+1,h=>by
  rw [qrx]
  by_cases hj:j<i
  ·exact jxw _ _ _ _ _ _ (jhz l item kind hk hi i hj)
  ·obtain rfl:j=i:=by omega
   unfold qjg
   rw [zb hk,zb (by simpa using hi)]
   split
   ·assumption
   ·unfold inF;rw [List.any_append];simp
theorem jia {l:List Nd} (ht:Tree l) (hb:∀ i,i<l.length→badF l i=false) {k k':Int} (hk:k∈(l.getD 0 nd0).kids) (hk':k'∈(l.getD 0 nd0).kids) (hlt:k<k')
  (h1:qi l k=1∨qi l k=3) (h2:qi l k'=1∨qi l k'=3):qbx (l.getD k.toNat nd0)≠qbx (l.getD k'.toNat nd0):=by
 intro e
 have hlen:=ht.len
 have a:=ht.kids 0 (by omega) k hk
 have a':=ht.kids 0 (by omega) k' hk'
 have hit:=(ht.item (j:=k.toNat) (by omega) (by omega)).2.2 (by rw [zbk (by omega)];exact hk)
 have hbd:=hb k'.toNat (by omega)
 unfold qi at h1 h2
 unfold badF at hbd
 rw [zb (by omega)] at hbd
 simp only [xw] at hbd
 have key:∀ kd,(l.getD k.toNat nd0).kind=kd→inF (qdb l (k'.toNat:Nat) kd) (qbx (l.getD k'.toNat nd0))=true:=fun kd h=>by
  rw [← e]
  exact jhz l _ kd h (.inl hit) _ (by omega)
 rcases h1 with h1|h1
 ·have:=key 1 h1;rw [hbd.1.1] at this;cases this
 ·have:=key 3 h1;rw [hbd.2] at this;cases this
def CInv (l:List Nd) (pre:List Int) (cs:List Ch):Prop:=(∀ c∈cs,∃ k∈pre,qi l k=1∧c.name=qbx (l.getD k.toNat nd0))∧cs.Pairwise fun a b=>a.name≠b.name
theorem qyd {l:List Nd} (ht:Tree l) (hb:∀ i,i<l.length→badF l i=false):∀ (rest pre:List Int) (M:Md),(l.getD 0 nd0).kids=pre++rest→CInv l pre M.chans→CInv l (pre++rest) (rest.foldl (qej l) M).chans
 | [],pre,M,_,h=>by simpa using h
 | k::rest,pre,M,hks,h=>by
  have hlen:=ht.len
  have hs:=(ht.kidsLen (j:=0) (by omega)).2
  rw [zab,show pre++k::rest=(pre++[k])++rest by simp]
  refine qyd ht hb rest (pre++[k]) _ (by rw [hks];simp) ?_
  have old:CInv l (pre++[k]) M.chans:=⟨fun c hc=>by obtain ⟨q,h1,h2⟩:=h.1 c hc;exact ⟨q,zak _ h1,h2⟩,h.2⟩
  unfold qej
  simp only
  split
  ·rename_i e
   refine ⟨fun c hc=>?_,?_⟩
   ·rcases List.mem_append.1 hc with hc|hc
    ·exact old.1 c hc
    ·rw [List.mem_singleton.1 hc]
     exact ⟨k,List.mem_append_right _ (List.mem_singleton.2 rfl),e,rfl⟩
   ·refine List.pairwise_append.2 ⟨h.2,List.pairwise_singleton _ _,fun a ha b hb'=>?_⟩
    rw [List.mem_singleton.1 hb']
    obtain ⟨q,h1,h2,h3⟩:=h.1 a ha
    rw [h3]
    rw [hks] at hs
    exact jia ht hb (by rw [hks];exact zak _ h1) (by rw [hks];simp) ((List.pairwise_append.1 hs).2.2 q h1 k (zn ..)) (.inl h2) (.inl e)
  split
  ·exact old
  split
  ·exact old
  split
  ·exact old
  ·exact old
theorem qsx {α:Type} {R:α→α→Prop} {l:List α} (h:l.Pairwise R) (d:α) {i j:Nat} (hij:i<j) (hj:j<l.length):R (l.getD i d) (l.getD j d):=by
 rw [List.getD_eq_getElem?_getD,ze (by omega),List.getD_eq_getElem?_getD,ze hj]
 exact List.pairwise_iff_getElem.1 h i j (by omega) hj hij
theorem jxx {l:List Nd} (ht:Tree l) (hc:(qbp l).1=0):ChU (qcq l):=by
 have h:=(qyd ht (qif hc).1 (l.getD 0 nd0).kids [] { tree:=l } (by simp) ⟨fun c hc=>by simp at hc,List.Pairwise.nil⟩).2
 have h:(qcq l).chans.Pairwise fun a b=>a.name≠b.name:=h
 intro i j hi hj e
 rcases zbj i j with hl|hl|hl
 ·exact absurd e (qsx h ch0 hl hj)
 ·exact hl
 ·exact absurd e.symm (qsx h ch0 hl hi)
def PrU (m:Md):Prop:=∀ i j,i<m.procs.length→j<m.procs.length→(m.procs.getD i pr0).name=(m.procs.getD j pr0).name→(m.procs.getD i pr0).copy=(m.procs.getD j pr0).copy→i=j
def NQ (a b:Pr):Prop:=¬ (a.name=b.name∧a.copy=b.copy)
theorem jxy (l:List Nd) (cs:List Ch) (k:Int) (seen:Nat) (y:List Vr × List Pr) (n:Nat):∃ q:Pr,(qby l cs k seen y n).2=y.2++[q]∧q.name=qbx (l.getD k.toNat nd0)∧q.copy=n:=by
 have h1:=qsm (qc l cs 20) k (qxu l cs 20) ((l.getD k.toNat nd0).kids.drop (varsN l (l.getD k.toNat nd0))) (((l.getD k.toNat nd0).kids.take (varsN l (l.getD k.toNat nd0))).foldl (qcp l) (qfz l y.1 seen k n,y.1)).1 0 1
 have h2:=qxv l ((l.getD k.toNat nd0).kids.take (varsN l (l.getD k.toNat nd0))) (qfz l y.1 seen k n,y.1)
 have h3:=h2.trans h1
 exact ⟨_,rfl,h3.1,h3.2⟩
theorem jib (l:List Nd) (cs:List Ch) (k:Int) (seen:Nat) (x:List Vr × List Pr) (hx:x.2.Pairwise NQ) (hn:∀ q∈x.2,q.name≠qbx (l.getD k.toNat nd0)):∀ (n:Nat),
  ((List.range n).foldl (qby l cs k seen) x).2.Pairwise NQ
 | 0=>hx
 | n+1=>by
  have ih:=jib l cs k seen x hx hn n
  have hm:=qsn l cs k seen n x
  rw [zat,xu,zab,List.foldl_nil]
  generalize (List.range n).foldl (qby l cs k seen) x=y at ih hm
  obtain ⟨q,h1,h2,h3⟩:=jxy l cs k seen y n
  rw [h1]
  refine List.pairwise_append.2 ⟨ih,List.pairwise_singleton _ _,fun a ha b hb'=>?_⟩
  rw [List.mem_singleton.1 hb']
  intro hab
  rcases hm a ha with h|⟨_,_,h⟩
  ·exact hn a h (hab.1.trans h2)
  ·rw [hab.2,h3] at h;omega
def QInv (l:List Nd) (pre:List Int) (ps:List Pr):Prop:=(∀ q∈ps,∃ k∈pre,qi l k=3∧q.name=qbx (l.getD k.toNat nd0))∧ps.Pairwise NQ
theorem qye {l:List Nd} (ht:Tree l) (hb:∀ i,i<l.length→badF l i=false) (cs:List Ch):∀ (rest pre:List Int) (x:Nat × List Vr × List Pr),(l.getD 0 nd0).kids=pre++rest→QInv l pre x.2.2→QInv l (pre++rest) (rest.foldl (qbz l cs) x).2.2
 | [],pre,x,_,h=>by simpa using h
 | k::rest,pre,x,hks,h=>by
  have hlen:=ht.len
  have hs:=(ht.kidsLen (j:=0) (by omega)).2
  rw [zab,show pre++k::rest=(pre++[k])++rest by simp]
  refine qye ht hb cs rest (pre++[k]) _ (by rw [hks];simp) ?_
  have old:QInv l (pre++[k]) x.2.2:=⟨fun c hc=>by obtain ⟨q,h1,h2⟩:=h.1 c hc;exact ⟨q,zak _ h1,h2⟩,h.2⟩
  unfold qbz
  simp only
  split
  ·rename_i e
   refine ⟨fun q hq=>?_,jib l cs k _ _ h.2 (fun q hq=>?_) _⟩
   ·rcases qsn l cs k _ _ _ q hq with hq|⟨h1,_,_⟩
    ·exact old.1 q hq
    ·exact ⟨k,List.mem_append_right _ (List.mem_singleton.2 rfl),e,h1⟩
   ·obtain ⟨p,h1,h2,h3⟩:=h.1 q hq
    rw [h3]
    rw [hks] at hs
    exact jia ht hb (by rw [hks];exact zak _ h1) (by rw [hks];simp) ((List.pairwise_append.1 hs).2.2 p h1 k (zn ..)) (.inr h2) (.inr e)
  ·exact old
theorem jxz {l:List Nd} (ht:Tree l) (hc:(qbp l).1=0):PrU (qcq l):=by
 have h:=(qye ht (qif hc).1 (qbs l).chans (l.getD 0 nd0).kids [] (0,(qbs l).vars,[]) (by simp) ⟨fun c hc=>by simp at hc,List.Pairwise.nil⟩).2
 have h:(qcq l).procs.Pairwise NQ:=h
 intro i j hi hj e e2
 rcases zbj i j with hl|hl|hl
 ·exact absurd ⟨e,e2⟩ (qsx h pr0 hl hj)
 ·exact hl
 ·exact absurd ⟨e.symm,e2.symm⟩ (qsx h pr0 hl hi)
set_option maxHeartbeats 8000000

end Go.Proofs.YtcfllgdfhfcicaaGreatDoor
end
