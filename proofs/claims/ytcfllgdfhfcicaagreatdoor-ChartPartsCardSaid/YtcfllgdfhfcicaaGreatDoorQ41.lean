/- Some texts of the library, one behind the other. -/
import Derived.Test.YtcfllgdfhfcicaaGreatDoorQ32
import Derived.Test.YtcfllgdfhfcicaaGreatDoorQ39
import Derived.Test.YtcfllgdfhfcicaaGreatDoorQ40
import Derived.Test.YtcfllgdfhfcicaaGreatDoorQ2
set_option linter.unusedSimpArgs false
set_option linter.unusedVariables false
section
namespace Go.St
open Go Go.Sx
def qen (c:Int) (n:Nat):Int:=if c.tmod n<0 then c.tmod n+n else c.tmod n
theorem jio {c:Int} {n:Nat} (h:0<n):0≤qen c n∧qen c n<n:=by
 have h1:=Int.tmod_lt_of_pos c (show (0:Int)<n by omega)
 have h2:=Int.lt_tmod_of_pos c (show (0:Int)<n by omega)
 unfold qen
 split <;> omega
def runL (m:Md):Stt→List Int→List Mv
 | _,[]=>[]
 | s,c::cs=>if (qap m s).length=0 then [] else (qap m s).getD (qen c (qap m s).length).toNat {}::runL m (qu m s ((qap m s).getD (qen c (qap m s).length).toNat {})) cs
def goL (m:Md) (s:Stt) (l:List Mv) (i:Nat):Stt:=(l.take i).foldl (qu m) s
theorem qyi (m:Md) (l:List Mv):∀ i,i≤l.length→stN m l i=goL m (qt m) l i
 | 0,_=>rfl
 | i+1,h=>by
  unfold stN goL
  rw [qyi m l i (by omega),zbc,ze (by omega),Option.toList,xu,List.getD_eq_getElem?_getD,ze (by omega)]
  rfl
theorem qta (m:Md):∀ (cs:List Int) (s:Stt),(runL m s cs).length≤cs.length ∧
  (∀ i,i<(runL m s cs).length→0<(qap m (goL m s (runL m s cs) i)).length∧(runL m s cs).getD i {}=(qap m (goL m s (runL m s cs) i)).getD (qen (cs.getD i 0) (qap m (goL m s (runL m s cs) i)).length).toNat {}) ∧
  ((runL m s cs).length<cs.length→(qap m (goL m s (runL m s cs) (runL m s cs).length)).length=0)
 | [],s=>⟨zk _,fun i hi=>absurd hi (zh i),fun h=>absurd h (zbi _)⟩
 | c::cs,s=>by
  by_cases h:(qap m s).length=0
  ·have e:runL m s (c::cs)=[]:=zb h
   rw [e]
   exact ⟨zx _,fun i hi=>absurd hi (zh i),fun _=>h⟩
  ·have e:runL m s (c::cs)=(qap m s).getD (qen c (qap m s).length).toNat {}::runL m (qu m s ((qap m s).getD (qen c (qap m s).length).toNat {})) cs:=za h
   obtain ⟨h1,h2,h3⟩:=qta m cs (qu m s ((qap m s).getD (qen c (qap m s).length).toNat {}))
   rw [e]
   refine ⟨by simp only [xm];omega,fun i hi=>?_,fun hl=>?_⟩
   ·cases i with
    | zero=>exact ⟨Nat.pos_of_ne_zero h,rfl⟩
    | succ i=>
     simp only [xm] at hi
     exact h2 i (by omega)
   ·simp only [xm] at hl
    exact h3 (by omega)
def runF (m:Md) (cs:List Int):List Mv:=runL m (qt m) cs
theorem jip (m:Md) (cs:List Int):(runF m cs).length≤cs.length:=(qta m cs (qt m)).1
theorem jiq {m:Md} {cs:List Int} {i:Nat} (h:i<(runF m cs).length):0<(qap m (stN m (runF m cs) i)).length∧(runF m cs).getD i {}=(qap m (stN m (runF m cs) i)).getD (qen (cs.getD i 0) (qap m (stN m (runF m cs) i)).length).toNat {}:=by
 rw [qyi m (runF m cs) i (by omega)]
 exact (qta m cs (qt m)).2.1 i h
theorem jyo {m:Md} {cs:List Int} (h:(runF m cs).length<cs.length):(qap m (stN m (runF m cs) (runF m cs).length)).length=0:=by
 rw [qyi m (runF m cs) _ (zk _)]
 exact (qta m cs (qt m)).2.2 h
theorem jyp {m:Md} {cs:List Int} {i:Nat} (h:i<(runF m cs).length):okN m (runF m cs) i=true:=by
 obtain ⟨h1,h2⟩:=jiq h
 unfold okN
 rw [h2]
 exact mem_movesF.1 (qe _ _ _ (by have:=jio (c:=cs.getD i 0) h1;omega))
end Go.St
end
section
namespace Go.Proofs.YtcfllgdfhfcicaaGreatDoor
open List renaming getD_eq_getElem?_getD → zd
open Go Go.Sx Go.RowKit Go.St
set_option maxRecDepth 100000
set_option maxHeartbeats 4000000
theorem jyq (m:Md) (hM:ModOk m) (h0:qm m (qt m)=true) (cs:List Int) (hl:cs.length≤1000000):Con Tryz.prog 13 [m.av,ints cs] (qgc (runF m cs)):=by
 have hrl:=jip m cs
 have hat:=fun {i}=>jiq (m:=m) (cs:=cs) (i:=i)
 have hen:=jyo (m:=m) (cs:=cs)
 have hok:=fun {i}=>jyp (m:=m) (cs:=cs) (i:=i)
 generalize runF m cs=L at hrl hat hen hok
 refine zK {lit:=true,owns:=[(6,(54,4))]} 300 Tryz.func13 (fun c0 rdb=>?_)
 (repeat' ((conv=>whnf);first|refine zC 300 (jgi m hM.ok) ?_|fail))
 ((conv=>whnf);refine qo (fun _=>rfl) 300 1 (fun i:Nat=>[(7,iv i),(6,.own 2 0 0 i)]) (fun i=>[(1,.box 76 (stN m L i).cells),(2,.row [] 54 4 0 i (encL Mv.cells {} L))]) (fun i=>i≤L.length) (fun i=>L.length - i) (0) (zx _) qa ⟨⟨rfl,Le.refl _,Le.refl _,Le.refl _,Le.refl _,trivial⟩,qaz (fun k hk=>absurd hk (zh k)),trivial⟩ (fun _=>rfl) (by kernel_rfl) ?_;(conv=>whnf))
 intro i hi
 have hf:=qhf hM h0 (fun j hj=>hok (i:=j) (by omega)) (i:=i)
 have hmv:=jfy m hM (stN m L i) hf
 have hVl:=jgj hM (stN m L i)
 by_cases hiL:i<L.length
 ·obtain ⟨hVp,hsel⟩:=hat hiL
  have hK:=jio (c:=cs.getD i 0) hVp
  generalize qap m (stN m L i)=V at hmv hVl hVp hsel hK
  have hlt:=Int.tmod_lt_of_pos (cs.getD i 0) (show (0:Int)<V.length by omega)
  have hgt:=Int.lt_tmod_of_pos (cs.getD i 0) (show (0:Int)<V.length by omega)
  have hr:inR .i64 ((cs.getD i 0).tmod V.length+V.length):=⟨show (-9223372036854775808:Int)≤(cs.getD i 0).tmod V.length+V.length by omega,show (cs.getD i 0).tmod V.length+V.length≤9223372036854775807 by omega⟩
  have hne:¬ V=[]:=fun h=>by rw [h] at hVp;exact absurd hVp (zbi 0)
  by_cases hneg:(cs.getD i 0).tmod V.length<0
  ·have hpk:qen (cs.getD i 0) V.length=((cs.getD i 0).tmod V.length+V.length):=by unfold qen;rw [zb hneg]
   rw [hpk] at hsel hK
   have hdo:=qxn m hM (stN m L i) (V.getD (((cs.getD i 0).tmod V.length+V.length)).toNat {}) hf (by rw [← hsel];exact hok hiL)
   have hst:qu m (stN m L i) (V.getD (((cs.getD i 0).tmod V.length+V.length)).toNat {})=stN m L (i+1):=by rw [← hsel];rfl
   rw [hst] at hdo
   (repeat' ((conv=>whnf);first|refine Ob.auto ?_|refine zC 300 (hmv) ?_|(apply zB <;> intro hb <;> (try simp [-zd] at hb) <;> try (exfalso;omega))))
   ·exact absurd (by assumption) hne
   (repeat' ((conv=>whnf);first|refine zA ?_|refine Ob.auto ?_|(refine CallY.con (hdo) (by rfl) leA ?_)|(refine zQ 300 ?_)|fail))
   ((conv=>whnf);refine ⟨i+1,by omega,⟨qa,⟨SoLe.refl _,⟨⟨rfl,rfl,rfl⟩,rfl,rfl,qxo (fun _ _=>rfl) (congrArg Mv.cells hsel.symm)⟩,trivial⟩⟩,⟨qa,qa⟩,?_⟩;(first|omega|(dsimp only;omega)|skip))
  ·have hpk:qen (cs.getD i 0) V.length=((cs.getD i 0).tmod V.length):=by unfold qen;rw [za (by omega)]
   rw [hpk] at hsel hK
   have hdo:=qxn m hM (stN m L i) (V.getD (((cs.getD i 0).tmod V.length)).toNat {}) hf (by rw [← hsel];exact hok hiL)
   have hst:qu m (stN m L i) (V.getD (((cs.getD i 0).tmod V.length)).toNat {})=stN m L (i+1):=by rw [← hsel];rfl
   rw [hst] at hdo
   (repeat' ((conv=>whnf);first|refine Ob.auto ?_|refine zC 300 (hmv) ?_|(apply zB <;> intro hb <;> (try simp [-zd] at hb) <;> try (exfalso;omega))))
   ·exact absurd (by assumption) hne
   (repeat' ((conv=>whnf);first|refine zA ?_|refine Ob.auto ?_|(refine CallY.con (hdo) (by rfl) leA ?_)|(refine zQ 300 ?_)|fail))
   ((conv=>whnf);refine ⟨i+1,by omega,⟨qa,⟨SoLe.refl _,⟨⟨rfl,rfl,rfl⟩,rfl,rfl,qxo (fun _ _=>rfl) (congrArg Mv.cells hsel.symm)⟩,trivial⟩⟩,⟨qa,qa⟩,?_⟩;(first|omega|(dsimp only;omega)|skip))
 ·obtain rfl:i=L.length:=by omega
  by_cases hcs:L.length<cs.length
  ·rw [List.length_eq_zero_iff.1 (hen hcs)] at hmv
   (repeat' ((conv=>whnf);first|refine Ob.auto ?_|refine zC 300 (hmv) ?_|(apply zB <;> intro hb <;> (try simp [-zd] at hb) <;> try (exfalso;omega))))
   exact Le.refl _
  ·(repeat' ((conv=>whnf);first|refine Ob.auto ?_|(apply zB <;> intro hb <;> (try simp [-zd] at hb) <;> try (exfalso;omega))))
   exact Le.refl _
set_option maxHeartbeats 8000000
def lnN (M:Md) (E:List Ev):Nat→List UInt8
 | 0=>[]
 | i+1=>qas M i (E.getD i {})
theorem jyr (l:List Nd) (hl:l.length≤9223372036854775807) (hz:∀ n∈l,NdSz n) (cs:List Int) (a:Int) (ha:0≤a∧a≤255):Con Tryz.prog 6 [js l,ints cs,bv a] (.bool true):=by
 have hm:=jwu l hl hz
 cases hmd:(qcj l).2 with
 | false=>
  rw [hmd] at hm
  generalize (qcj l).1=M at hm
  refine zK {} 300 Tryz.func6 (fun c0 rdb=>?_)
  (repeat' ((conv=>whnf);first|refine Ob.auto ?_|refine zC 300 (qya) ?_|refine zC 300 (hm) ?_|(apply zB <;> intro hb <;> (try simp [-zd] at hb) <;> try (exfalso;omega))))
  all_goals exact Le.refl _
 | true=>
  rw [hmd] at hm
  have hM:=(qek hmd).1
  have hvf:VFit (qcj l).1.vars:=by rw [(qek hmd).2.1];exact jxb (qek hmd).2.2.1 (qif (qek hmd).2.2.2).2
  have hf:=jxc hM.ok hvf
  have hn:NmOk (qcj l).1:=by
   rw [(qek hmd).2.1]
   exact jgt (jhn hmd)
  have hU:ChU (qcj l).1:=by
   rw [(qek hmd).2.1]
   exact jxx (qek hmd).2.2.1 (qek hmd).2.2.2
  have hP:PrU (qcj l).1:=by
   rw [(qek hmd).2.1]
   exact jxz (qek hmd).2.2.1 (qek hmd).2.2.2
  have hC:NmCl (qcj l).1:=by
   rw [(qek hmd).2.1]
   exact jyg (jhn hmd) (qek hmd).2.2.1 (qek hmd).2.2.2
  generalize (qcj l).1=M at hm hM hf hn hU hP hC
  by_cases hs:cs.length≤30
  ·have hrl:=jip M cs
   have h4:=jyq M hM hf cs (by omega)
   have h5:=jvg M hM hf (runF M cs) (by omega)
   have hE:=jyn hM hf (l:=runF M cs) (by omega)
   have hEl:=(qxw hM hf (l:=runF M cs) (by omega)).2
   generalize qcd M (runF M cs)=E at h5 hE hEl
   generalize runF M cs=V at h4 h5 hrl hEl
   have h7:∀ i,i<E.length→Con Tryz.prog 18 [M.av,iv i,(E.getD i {}).av] (.str (qas M i (E.getD i {}))):=fun i hi=>jvr M hM hn i (by omega) _ (hE.ok _ (qe E i {} hi))
   refine zK {} 300 Tryz.func6 (fun c0 rdb=>?_)
   (repeat' ((conv=>whnf);first|refine Ob.auto ?_|refine zC 300 (qya) ?_|refine zC 300 (hm) ?_|refine zC 300 (h4) ?_|refine zC 300 (h5) ?_|(apply zB <;> intro hb <;> (try simp [-zd] at hb) <;> try (exfalso;omega))))
   ·exact Le.refl _
   have hE0:0<E.length:=List.length_pos_iff.2 hb
   obtain ⟨K,hK⟩:∃ K:Nat,(K:Int)=a.tmod E.length:=⟨(a.tmod E.length).toNat,zbk (Int.tmod_nonneg _ ha.1)⟩
   have hKl:K<E.length:=by have:=Int.tmod_lt_of_pos a (show (0:Int)<E.length by omega);omega
   have hle:=qsp hn hE.ok (by omega)
   have hlK:=qpg hn (hE.ok _ (qe E K {} hKl)) K (by omega)
   have hlp:=hle (K+1) (by omega)
   have h10:=jhy M hM hn hU (qbf M E (K+1)) (by omega)
   rw [jyl hC hP hU hE (by omega:K+1≤E.length)] at h10
   have h11:=jhy M hM hn hU (qbf M E (K+1)++qas M K (E.getD K {})) (by rw [zg];omega)
   rw [jym hC hP hU hE hKl] at h11
   simp only [zae,Option.isSome_some,Option.getD_none,Option.isSome_none] at h10 h11
   have hln:((E.take (K+1)).map zEv).length=K+1:=by rw [xh,zw];omega
   generalize (E.take (K+1)).map zEv=F at h10 hln
   rw [← hK]
   ((conv=>whnf);refine qo (fun _=>rfl) 300 1 (fun i:Nat=>[(12,.str (qbf M E i)),(13,.str (lnN M E i)),(14,iv i)]) (fun _=>[]) (fun i=>i≤K+1) (fun i=>K+1 - i) (0) (zx _) qa qa (fun _=>rfl) (by kernel_rfl) ?_;(conv=>whnf))
   intro i hi
   by_cases hik:i≤K
   ·have hc:=h7 i (by omega)
    have hl1:=hle i (by omega)
    have hl2:=qpg hn (hE.ok _ (qe E i {} (by omega))) i (by omega)
    (repeat' ((conv=>whnf);first|refine zO ?_|refine Ob.auto ?_|refine zX (hc) ?_|(refine zR 300 ?_)|(apply zB <;> intro hb <;> (try simp [-zd] at hb) <;> try (exfalso;omega))))
    ((conv=>whnf);refine ⟨i+1,by omega,⟨⟨Le.of_eq (congrArg AV.str (qky M E i).symm),Le.refl _,Le.refl _,trivial⟩,trivial⟩,⟨qa,qa⟩,?_⟩;(first|omega|(dsimp only;omega)|skip))
   ·obtain rfl:i=K+1:=by omega
    rw [show lnN M E (K+1)=qas M K (E.getD K {}) from rfl]
    (repeat' ((conv=>whnf);first|refine Ob.auto ?_|refine zC 300 (h10) ?_|refine zC 300 (h11) ?_|(apply zB <;> intro hb <;> (try simp [-zd] at hb) <;> try (exfalso;omega))))
    exact Le.of_eq (congrArg AV.bool (by rw [hln];simp))
  ·refine zK {} 300 Tryz.func6 (fun c0 rdb=>?_)
   (repeat' ((conv=>whnf);first|refine Ob.auto ?_|refine zC 300 (qya) ?_|(apply zB <;> intro hb <;> (try simp [-zd] at hb) <;> try (exfalso;omega))))
   all_goals exact Le.refl _
end Go.Proofs.YtcfllgdfhfcicaaGreatDoor
end
