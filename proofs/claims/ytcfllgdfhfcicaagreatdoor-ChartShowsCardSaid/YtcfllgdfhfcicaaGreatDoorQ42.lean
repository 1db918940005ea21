/- Some texts of the library, one behind the other. -/
import Derived.Test.YtcfllgdfhfcicaaGreatDoorQ33
import Derived.Test.YtcfllgdfhfcicaaGreatDoorQ34
import Derived.Test.YtcfllgdfhfcicaaGreatDoorQ38
import Derived.Test.YtcfllgdfhfcicaaGreatDoorQ40
import Derived.Test.YtcfllgdfhfcicaaGreatDoorQ41
import Derived.Test.YtcfllgdfhfcicaaGreatDoorQ2
set_option linter.unusedSimpArgs false
set_option linter.unusedVariables false
section
namespace Go.St
open Go Go.Sx
def qep (c:Int) (n:Nat):Int:=if c.tmod n<0 then c.tmod n+n else c.tmod n
theorem jio {c:Int} {n:Nat} (h:0<n):0≤qep c n∧qep c n<n:=by
 have h1:=Int.tmod_lt_of_pos c (show (0:Int)<n by omega)
 have h2:=Int.lt_tmod_of_pos c (show (0:Int)<n by omega)
 unfold qep
 split <;> omega
def runL (m:Md):Stt→List Int→List Mv
 | _,[]=>[]
 | s,c::cs=>if (qap m s).length=0 then [] else (qap m s).getD (qep c (qap m s).length).toNat {}::runL m (qu m s ((qap m s).getD (qep c (qap m s).length).toNat {})) cs
def goL (m:Md) (s:Stt) (l:List Mv) (i:Nat):Stt:=(l.take i).foldl (qu m) s
theorem qyg (m:Md) (l:List Mv):∀ i,i≤l.length→stN m l i=goL m (qt m) l i
 | 0,_=>rfl
 | i+1,h=>by
  unfold stN goL
  rw [qyg m l i (by omega),zbc,ze (by omega),Option.toList,xv,List.getD_eq_getElem?_getD,ze (by omega)]
  rfl
theorem qtc (m:Md):∀ (cs:List Int) (s:Stt),(runL m s cs).length≤cs.length ∧
  (∀ i,i<(runL m s cs).length→0<(qap m (goL m s (runL m s cs) i)).length∧(runL m s cs).getD i {}=(qap m (goL m s (runL m s cs) i)).getD (qep (cs.getD i 0) (qap m (goL m s (runL m s cs) i)).length).toNat {}) ∧
  ((runL m s cs).length<cs.length→(qap m (goL m s (runL m s cs) (runL m s cs).length)).length=0)
 | [],s=>⟨zk _,fun i hi=>absurd hi (zh i),fun h=>absurd h (zbi _)⟩
 | c::cs,s=>by
  by_cases h:(qap m s).length=0
  ·have e:runL m s (c::cs)=[]:=zb h
   rw [e]
   exact ⟨zv _,fun i hi=>absurd hi (zh i),fun _=>h⟩
  ·have e:runL m s (c::cs)=(qap m s).getD (qep c (qap m s).length).toNat {}::runL m (qu m s ((qap m s).getD (qep c (qap m s).length).toNat {})) cs:=za h
   obtain ⟨h1,h2,h3⟩:=qtc m cs (qu m s ((qap m s).getD (qep c (qap m s).length).toNat {}))
   rw [e]
   refine ⟨by simp only [xm];omega,fun i hi=>?_,fun hl=>?_⟩
   ·cases i with
    | zero=>exact ⟨Nat.pos_of_ne_zero h,rfl⟩
    | succ i=>
     simp only [xm] at hi
     exact h2 i (by omega)
   ·simp only [xm] at hl
    exact h3 (by omega)
def runF (m:Md) (cs:List Int):List Mv:=runL m (qt m) cs
theorem jip (m:Md) (cs:List Int):(runF m cs).length≤cs.length:=(qtc m cs (qt m)).1
theorem jiq {m:Md} {cs:List Int} {i:Nat} (h:i<(runF m cs).length):0<(qap m (stN m (runF m cs) i)).length∧(runF m cs).getD i {}=(qap m (stN m (runF m cs) i)).getD (qep (cs.getD i 0) (qap m (stN m (runF m cs) i)).length).toNat {}:=by
 rw [qyg m (runF m cs) i (by omega)]
 exact (qtc m cs (qt m)).2.1 i h
theorem jys {m:Md} {cs:List Int} (h:(runF m cs).length<cs.length):(qap m (stN m (runF m cs) (runF m cs).length)).length=0:=by
 rw [qyg m (runF m cs) _ (zk _)]
 exact (qtc m cs (qt m)).2.2 h
theorem jyt {m:Md} {cs:List Int} {i:Nat} (h:i<(runF m cs).length):okN m (runF m cs) i=true:=by
 obtain ⟨h1,h2⟩:=jiq h
 unfold okN
 rw [h2]
 exact mem_movesF.1 (qe _ _ _ (by have:=jio (c:=cs.getD i 0) h1;omega))
end Go.St
end
section
namespace Go.Proofs.YtcfllgdfhfcicaaGreatDoor
open List renaming getD_eq_getElem?_getD → zd
open Go Go.Sx Go.RowKit Go.St
set_option maxRecDepth 100000
set_option maxHeartbeats 4000000
theorem jyu (m:Md) (hM:ModOk m) (h0:ql m (qt m)=true) (cs:List Int) (hl:cs.length≤1000000):Con Tryz.prog 13 [m.av,ints cs] (qez (runF m cs)):=by
 have hrl:=jip m cs
 have hat:=fun {i}=>jiq (m:=m) (cs:=cs) (i:=i)
 have hen:=jys (m:=m) (cs:=cs)
 have hok:=fun {i}=>jyt (m:=m) (cs:=cs) (i:=i)
 generalize runF m cs=L at hrl hat hen hok
 refine zK {lit:=true,owns:=[(6,(54,4))]} 300 Tryz.func13 (fun c0 rdb=>?_)
 (repeat' ((conv=>whnf);first|refine zC 300 (jgg m hM.ok) ?_|fail))
 ((conv=>whnf);refine qn (fun _=>rfl) 300 1 (fun i:Nat=>[(7,iv i),(6,.own 2 0 0 i)]) (fun i=>[(1,.box 76 (stN m L i).cells),(2,.row [] 54 4 0 i (encL Mv.cells {} L))]) (fun i=>i≤L.length) (fun i=>L.length - i) (0) (zv _) qa ⟨⟨rfl,Le.refl _,Le.refl _,Le.refl _,Le.refl _,trivial⟩,qau (fun k hk=>absurd hk (zh k)),trivial⟩ (fun _=>rfl) (by kernel_rfl) ?_;(conv=>whnf))
 intro i hi
 have hf:=qfo hM h0 (fun j hj=>hok (i:=j) (by omega)) (i:=i)
 have hmv:=jfw m hM (stN m L i) hf
 have hVl:=jgh hM (stN m L i)
 by_cases hiL:i<L.length
 ·obtain ⟨hVp,hsel⟩:=hat hiL
  have hK:=jio (c:=cs.getD i 0) hVp
  generalize qap m (stN m L i)=V at hmv hVl hVp hsel hK
  have hlt:=Int.tmod_lt_of_pos (cs.getD i 0) (show (0:Int)<V.length by omega)
  have hgt:=Int.lt_tmod_of_pos (cs.getD i 0) (show (0:Int)<V.length by omega)
  have hr:inR .i64 ((cs.getD i 0).tmod V.length+V.length):=⟨show (-9223372036854775808:Int)≤(cs.getD i 0).tmod V.length+V.length by omega,show (cs.getD i 0).tmod V.length+V.length≤9223372036854775807 by omega⟩
  have hne:¬ V=[]:=fun h=>by rw [h] at hVp;exact absurd hVp (zbi 0)
  by_cases hneg:(cs.getD i 0).tmod V.length<0
  ·have hpk:qep (cs.getD i 0) V.length=((cs.getD i 0).tmod V.length+V.length):=by unfold qep;rw [zb hneg]
   rw [hpk] at hsel hK
   have hdo:=qxr m hM (stN m L i) (V.getD (((cs.getD i 0).tmod V.length+V.length)).toNat {}) hf (by rw [← hsel];exact hok hiL)
   have hst:qu m (stN m L i) (V.getD (((cs.getD i 0).tmod V.length+V.length)).toNat {})=stN m L (i+1):=by rw [← hsel];rfl
   rw [hst] at hdo
   (repeat' ((conv=>whnf);first|refine Ob.auto ?_|refine zC 300 (hmv) ?_|(apply zB <;> intro hb <;> (try simp [-zd] at hb) <;> try (exfalso;omega))))
   ·exact absurd (by assumption) hne
   (repeat' ((conv=>whnf);first|refine zA ?_|refine Ob.auto ?_|(refine CallY.con (hdo) (by rfl) leA ?_)|(refine zQ 300 ?_)|fail))
   ((conv=>whnf);refine ⟨i+1,by omega,⟨qa,⟨SoLe.refl _,⟨⟨rfl,rfl,rfl⟩,rfl,rfl,qxs (fun _ _=>rfl) (congrArg Mv.cells hsel.symm)⟩,trivial⟩⟩,⟨qa,qa⟩,?_⟩;(first|omega|(dsimp only;omega)|skip))
  ·have hpk:qep (cs.getD i 0) V.length=((cs.getD i 0).tmod V.length):=by unfold qep;rw [za (by omega)]
   rw [hpk] at hsel hK
   have hdo:=qxr m hM (stN m L i) (V.getD (((cs.getD i 0).tmod V.length)).toNat {}) hf (by rw [← hsel];exact hok hiL)
   have hst:qu m (stN m L i) (V.getD (((cs.getD i 0).tmod V.length)).toNat {})=stN m L (i+1):=by rw [← hsel];rfl
   rw [hst] at hdo
   (repeat' ((conv=>whnf);first|refine Ob.auto ?_|refine zC 300 (hmv) ?_|(apply zB <;> intro hb <;> (try simp [-zd] at hb) <;> try (exfalso;omega))))
   ·exact absurd (by assumption) hne
   (repeat' ((conv=>whnf);first|refine zA ?_|refine Ob.auto ?_|(refine CallY.con (hdo) (by rfl) leA ?_)|(refine zQ 300 ?_)|fail))
   ((conv=>whnf);refine ⟨i+1,by omega,⟨qa,⟨SoLe.refl _,⟨⟨rfl,rfl,rfl⟩,rfl,rfl,qxs (fun _ _=>rfl) (congrArg Mv.cells hsel.symm)⟩,trivial⟩⟩,⟨qa,qa⟩,?_⟩;(first|omega|(dsimp only;omega)|skip))
 ·obtain rfl:i=L.length:=by omega
  by_cases hcs:L.length<cs.length
  ·rw [List.length_eq_zero_iff.1 (hen hcs)] at hmv
   (repeat' ((conv=>whnf);first|refine Ob.auto ?_|refine zC 300 (hmv) ?_|(apply zB <;> intro hb <;> (try simp [-zd] at hb) <;> try (exfalso;omega))))
   exact Le.refl _
  ·(repeat' ((conv=>whnf);first|refine Ob.auto ?_|(apply zB <;> intro hb <;> (try simp [-zd] at hb) <;> try (exfalso;omega))))
   exact Le.refl _
theorem jyv (m:Md) (hM:ModOk m) (h0:ql m (qt m)=true) (l:List Mv) (hl:l.length≤1000000):Trip Tryz.prog 14 [m.av,qez l] [] (.own 1 0 0 (qbe m l).length) [(1,.row [] 40 6 0 (qbe m l).length (encL Ev.cells {} (qbe m l)))] 2:=by
 have hst:=jgj m hM h0 l hl
 have hn:=qov m l
 have hlen:(qel m l).length=nF m l+1:=by simp [qel]
 have hget:∀ i,i≤nF m l→(qel m l).getD i st0z=stN m l i:=fun i hi=>by unfold qel;rw [qvj _ _ _ _ (by omega)]
 generalize qel m l=A at hst hlen hget
 have hEl:=qmj m l
 refine zL {lit:=true,owns:=[(6,(40,6))]} 300 Tryz.func14 (fun c0 rdb mpb=>?_)
 (repeat' ((conv=>whnf);first|refine zC 300 (hst) ?_|fail))
 ((conv=>whnf);refine qn (fun _=>rfl) 300 1 (fun i:Nat=>[(7,iv i),(6,.own 1 0 0 (evN m l i).length)]) (fun i=>[(1,.row [] 40 6 0 (evN m l i).length (encL Ev.cells {} (evN m l i)))]) (fun i=>i≤nF m l) (fun i=>nF m l - i) (0) (zv _) qa ⟨qau (fun k hk=>absurd hk (zh k)),trivial⟩ (fun _=>rfl) (by kernel_rfl) ?_;(conv=>whnf))
 intro i hi
 have hEi:=hEl i
 by_cases hin:i<nF m l
 ·have hok:jc m (stN m l i) (l.getD i {})=true:=hn.2.1 i hin
  have hf:=qfo hM h0 (fun j hj=>hn.2.1 j (by omega:j<nF m l)) (i:=i)
  have hA:=hget i (by omega)
  have hcl:=((jb m _).1 hf).1.2.2.1
  have hEn:evN m l (i+1)=evN m l i++(evOf m (stN m l i) (stN m l (i+1)) i (l.getD i {}) (evN m l i)).toList:=rfl
  have hfr:=fun c=>jfu (evN m l i) (by omega) c
  generalize evN m l i=E at hEi hEn hfr ⊢
  rcases qsm hok with ⟨hk,hc,hq⟩|⟨hk,hc,hq⟩|⟨hk,hP,he,hcan⟩
  ·rw [← hA] at hq hcl
   have hk1:inR .i64 ((l.getD i {}).kind+1):=⟨show (-9223372036854775808:Int)≤(l.getD i {}).kind+1 by omega,show (l.getD i {}).kind+1≤9223372036854775807 by omega⟩
   have hfc:=hfr (l.getD i {}).chn
   have hE1:E++[⟨(l.getD i {}).kind+1,i,-1,(l.getD i {}).chn,((A.getD i st0z).chans.getD (l.getD i {}).chn.toNat []).getD 0 0,jm E (l.getD i {}).chn⟩]=evN m l (i+1):=by
    rw [hEn,hA]
    unfold evOf jp
    rw [zb hk]
    rw [hk];rfl
   (repeat' ((conv=>whnf);first|refine zO ?_|refine Ob.auto ?_|refine zE 300 (hfc) ?_|refine zD 300 ?_|(apply zB <;> intro hb <;> (try simp [-zd] at hb) <;> try (exfalso;omega))))
   ((conv=>whnf);refine ⟨i+1,by omega,⟨⟨Le.refl _,qfp hE1 1,trivial⟩,⟨qeo Ev.cells {} hE1 rfl,trivial⟩⟩,⟨qa,qa⟩,?_⟩;(first|omega|(dsimp only;omega)|skip))
  ·rw [← hA] at hq hcl
   have hk1:inR .i64 ((l.getD i {}).kind+1):=⟨show (-9223372036854775808:Int)≤(l.getD i {}).kind+1 by omega,show (l.getD i {}).kind+1≤9223372036854775807 by omega⟩
   have hfc:=hfr (l.getD i {}).chn
   have hE1:E++[⟨(l.getD i {}).kind+1,i,-1,(l.getD i {}).chn,((A.getD i st0z).chans.getD (l.getD i {}).chn.toNat []).getD 0 0,jm E (l.getD i {}).chn⟩]=evN m l (i+1):=by
    rw [hEn,hA]
    unfold evOf jp
    rw [za (by omega),zb hk]
    rw [hk];rfl
   (repeat' ((conv=>whnf);first|refine zO ?_|refine Ob.auto ?_|refine zE 300 (hfc) ?_|refine zD 300 ?_|(apply zB <;> intro hb <;> (try simp [-zd] at hb) <;> try (exfalso;omega))))
   ((conv=>whnf);refine ⟨i+1,by omega,⟨⟨Le.refl _,qfp hE1 1,trivial⟩,⟨qeo Ev.cells {} hE1 rfl,trivial⟩⟩,⟨qa,qa⟩,?_⟩;(first|omega|(dsimp only;omega)|skip))
  ·have hed:=edOk hM (p:=(l.getD i {}).proc.toNat) (i:=(l.getD i {}).edge.toNat) (by omega) (show (l.getD i {}).edge.toNat<(m.procs.getD (l.getD i {}).proc.toNat pr0).edges.length by omega)
   have hedd:EdOk m.tree.length m.vars.length m.chans.length (m.procs.getD (l.getD i {}).proc.toNat pr0).places ((m.procs.getD (l.getD i {}).proc.toNat pr0).edges.getD (l.getD i {}).edge.toNat ed0):=hed
   have hfc:=hfr ((m.procs.getD (l.getD i {}).proc.toNat pr0).edges.getD (l.getD i {}).edge.toNat ed0).chn
   by_cases h2:((m.procs.getD (l.getD i {}).proc.toNat pr0).edges.getD (l.getD i {}).edge.toNat ed0).act=2
   ·have hch:=hedd.chn (.inl h2)
    have hB:=hget (i+1) (by omega)
    have hf1:=qfo hM h0 (fun j hj=>hn.2.1 j (by omega:j<nF m l)) (i:=i+1)
    have htl:=((jb m _).1 hf1).1.2.2.1
    have hpos:=jgo hM hok hk h2 hcl
    have hb1:=(qck hM hf1).l _ (qe _ ((m.procs.getD (l.getD i {}).proc.toNat pr0).edges.getD (l.getD i {}).edge.toNat ed0).chn.toNat [] (by omega))
    rw [show qu m (stN m l i) (l.getD i {})=stN m l (i+1) from rfl] at hpos
    have hpos:0<((stN m l (i+1)).chans.getD ((m.procs.getD (l.getD i {}).proc.toNat pr0).edges.getD (l.getD i {}).edge.toNat ed0).chn.toNat []).length:=hpos
    rw [← hB] at htl hpos hb1
    have o1:0≤((m.procs.getD (l.getD i {}).proc.toNat pr0).edges.getD (l.getD i {}).edge.toNat ed0).chn∧((m.procs.getD (l.getD i {}).proc.toNat pr0).edges.getD (l.getD i {}).edge.toNat ed0).chn<((A.getD (i+1) st0z).chans.length:Int):=by omega
    have o2:inR .i64 ((((A.getD (i+1) st0z).chans.getD ((m.procs.getD (l.getD i {}).proc.toNat pr0).edges.getD (l.getD i {}).edge.toNat ed0).chn.toNat []).length:Int) - 1):=⟨show (-9223372036854775808:Int)≤(((A.getD (i+1) st0z).chans.getD ((m.procs.getD (l.getD i {}).proc.toNat pr0).edges.getD (l.getD i {}).edge.toNat ed0).chn.toNat []).length:Int) - 1 by omega,show (((A.getD (i+1) st0z).chans.getD ((m.procs.getD (l.getD i {}).proc.toNat pr0).edges.getD (l.getD i {}).edge.toNat ed0).chn.toNat []).length:Int) - 1≤9223372036854775807 by omega⟩
    have o3:0≤(((A.getD (i+1) st0z).chans.getD ((m.procs.getD (l.getD i {}).proc.toNat pr0).edges.getD (l.getD i {}).edge.toNat ed0).chn.toNat []).length:Int) - 1∧(((A.getD (i+1) st0z).chans.getD ((m.procs.getD (l.getD i {}).proc.toNat pr0).edges.getD (l.getD i {}).edge.toNat ed0).chn.toNat []).length:Int) - 1<(((A.getD (i+1) st0z).chans.getD ((m.procs.getD (l.getD i {}).proc.toNat pr0).edges.getD (l.getD i {}).edge.toNat ed0).chn.toNat []).length:Int):=by omega
    have hE1:E++[⟨0,i,(l.getD i {}).proc,((m.procs.getD (l.getD i {}).proc.toNat pr0).edges.getD (l.getD i {}).edge.toNat ed0).chn,((A.getD (i+1) st0z).chans.getD ((m.procs.getD (l.getD i {}).proc.toNat pr0).edges.getD (l.getD i {}).edge.toNat ed0).chn.toNat []).getD ((((A.getD (i+1) st0z).chans.getD ((m.procs.getD (l.getD i {}).proc.toNat pr0).edges.getD (l.getD i {}).edge.toNat ed0).chn.toNat []).length:Int) - 1).toNat 0,-1⟩]=evN m l (i+1):=by
     rw [hEn,hB]
     unfold evOf qde
     rw [za (by omega),za (by omega),zb (show (edOf m (l.getD i {})).act=2 from h2),show ∀ n:Nat,((n:Int) - 1).toNat=n - 1 from fun n=>by omega]
     rfl
    (repeat' ((conv=>whnf);first|refine zO ?_|refine Ob.auto ?_|refine zD 300 ?_|(apply zB <;> intro hb <;> (try simp [-zd] at hb) <;> try (exfalso;omega))))
    ((conv=>whnf);refine ⟨i+1,by omega,⟨⟨Le.refl _,qfp hE1 1,trivial⟩,⟨qeo Ev.cells {} hE1 rfl,trivial⟩⟩,⟨qa,qa⟩,?_⟩;(first|omega|(dsimp only;omega)|skip))
   ·by_cases h3:((m.procs.getD (l.getD i {}).proc.toNat pr0).edges.getD (l.getD i {}).edge.toNat ed0).act=3
    ·have hch:=hedd.chn (.inr h3)
     have hq:0<((stN m l i).chans.getD ((m.procs.getD (l.getD i {}).proc.toNat pr0).edges.getD (l.getD i {}).edge.toNat ed0).chn.toNat []).length:=qpg hcan h3
     rw [← hA] at hq hcl
     have o1:0≤((m.procs.getD (l.getD i {}).proc.toNat pr0).edges.getD (l.getD i {}).edge.toNat ed0).chn∧((m.procs.getD (l.getD i {}).proc.toNat pr0).edges.getD (l.getD i {}).edge.toNat ed0).chn<((A.getD i st0z).chans.length:Int):=by omega
     have o2:(0:Int)≤0∧0<(((A.getD i st0z).chans.getD ((m.procs.getD (l.getD i {}).proc.toNat pr0).edges.getD (l.getD i {}).edge.toNat ed0).chn.toNat []).length:Int):=by omega
     have hE1:E++[⟨1,i,(l.getD i {}).proc,((m.procs.getD (l.getD i {}).proc.toNat pr0).edges.getD (l.getD i {}).edge.toNat ed0).chn,((A.getD i st0z).chans.getD ((m.procs.getD (l.getD i {}).proc.toNat pr0).edges.getD (l.getD i {}).edge.toNat ed0).chn.toNat []).getD 0 0,jm E ((m.procs.getD (l.getD i {}).proc.toNat pr0).edges.getD (l.getD i {}).edge.toNat ed0).chn⟩]=evN m l (i+1):=by
      rw [hEn,hA]
      unfold evOf jp
      rw [za (by omega),za (by omega),za (show ¬ (edOf m (l.getD i {})).act=2 from h2),zb (show (edOf m (l.getD i {})).act=3 from h3)]
      rfl
     (repeat' ((conv=>whnf);first|refine zO ?_|refine Ob.auto ?_|refine zE 300 (hfc) ?_|refine zD 300 ?_|(apply zB <;> intro hb <;> (try simp [-zd] at hb) <;> try (exfalso;omega))))
     ((conv=>whnf);refine ⟨i+1,by omega,⟨⟨Le.refl _,qfp hE1 1,trivial⟩,⟨qeo Ev.cells {} hE1 rfl,trivial⟩⟩,⟨qa,qa⟩,?_⟩;(first|omega|(dsimp only;omega)|skip))
    ·have hE1:E=evN m l (i+1):=by
      rw [hEn]
      unfold evOf
      rw [za (by omega),za (by omega),za (show ¬ (edOf m (l.getD i {})).act=2 from h2),za (show ¬ (edOf m (l.getD i {})).act=3 from h3)]
      exact (zaa _).symm
     clear hEn
     (repeat' ((conv=>whnf);first|refine zO ?_|refine Ob.auto ?_|refine zD 300 ?_|(apply zB <;> intro hb <;> (try simp [-zd] at hb) <;> try (exfalso;omega))))
     ((conv=>whnf);refine ⟨i+1,by omega,⟨⟨Le.refl _,qjp hE1 1,trivial⟩,⟨qjo Ev.cells {} hE1,trivial⟩⟩,⟨qa,qa⟩,?_⟩;(first|omega|(dsimp only;omega)|skip))
 ·obtain rfl:i=nF m l:=by omega
  (repeat' ((conv=>whnf);first|refine Ob.auto ?_|(apply zB <;> intro hb <;> (try simp [-zd] at hb) <;> try (exfalso;omega))))
  exact ⟨Le.refl _,qau (fun _ _=>rfl),trivial⟩
set_option maxHeartbeats 8000000
def zN (E:List Ev) (i:Nat):List Ev:=(E.take i).map zEv++E.drop i
theorem qyh (E:List Ev) (i k:Nat):(zN E i).getD k {}=if k<i then zEv (E.getD k {}) else E.getD k {}:=by
 unfold zN
 rw [zd,zd]
 by_cases hk:k<E.length
 ·by_cases hki:k<i
  ·rw [zb hki,zx (by simp;omega),zj,List.getElem?_take_of_lt hki,ze hk];rfl
  ·rw [za hki,zp (by simp;omega),xh]
   congr 2
   simp;omega
 ·rw [zy (by simp;omega),zy (by omega)]
  split <;> rfl
theorem jyw (E:List Ev) (i k:Nat):(if k=i then qaq (encL Ev.cells {} (zN E i) i) 1 [iv 0] else encL Ev.cells {} (zN E i) k)=encL Ev.cells {} (zN E (i+1)) k:=by
 unfold encL
 rw [qyh,qyh,qyh]
 by_cases h:k=i
 ·subst h
  rw [zb rfl,za (by omega),zb (by omega)]
  rfl
 ·rw [za h]
  by_cases h1:k<i
  ·rw [zb h1,zb (by omega)]
  ·rw [za h1,za (by omega)]
theorem jyx (l:List Nd) (hl:l.length≤9223372036854775807) (hz:∀ n∈l,NdSz n) (cs:List Int):Con Tryz.prog 4 [jt l,ints cs] (.bool true):=by
 have hm:=jwv l hl hz
 cases hmd:(qcj l).2 with
 | false=>
  rw [hmd] at hm
  generalize (qcj l).1=M at hm
  refine zK {} 300 Tryz.func4 (fun c0 rdb=>?_)
  (repeat' ((conv=>whnf);first|refine Ob.auto ?_|refine zC 300 (qyc) ?_|refine zC 300 (hm) ?_|(apply zB <;> intro hb <;> (try simp [-zd] at hb) <;> try (exfalso;omega))))
  all_goals exact Le.refl _
 | true=>
  rw [hmd] at hm
  have hM:=(qek hmd).1
  have hvf:VFit (qcj l).1.vars:=by rw [(qek hmd).2.1];exact jxc (qek hmd).2.2.1 (qig (qek hmd).2.2.2).2
  have hf:=jxd hM.ok hvf
  have hn:NmOk (qcj l).1:=by
   rw [(qek hmd).2.1]
   exact jgt (jhn hmd)
  have hU:ChU (qcj l).1:=by
   rw [(qek hmd).2.1]
   exact jxz (qek hmd).2.2.1 (qek hmd).2.2.2
  have hP:PrU (qcj l).1:=by
   rw [(qek hmd).2.1]
   exact jyb (qek hmd).2.2.1 (qek hmd).2.2.2
  have hC:NmCl (qcj l).1:=by
   rw [(qek hmd).2.1]
   exact jyj (jhn hmd) (qek hmd).2.2.1 (qek hmd).2.2.2
  generalize (qcj l).1=M at hm hM hf hn hU hP hC
  by_cases hs:cs.length≤40
  ·have hrl:=jip M cs
   have h4:=jyu M hM hf cs (by omega)
   have h5:=jyv M hM hf (runF M cs) (by omega)
   have h8:=jhj M hM hn hf (runF M cs) (by omega)
   have h9:=jvt M hM hn hf (runF M cs) (by omega)
   have hE:=jyr hM hf (l:=runF M cs) (by omega)
   have hEl:=(qsq hM hf (l:=runF M cs) (by omega)).2
   generalize qbe M (runF M cs)=E at h5 h8 h9 hE hEl
   generalize runF M cs=V at h4 h5 h8 h9 hrl hEl
   have hle:=qpj hn hE.ok (by omega) _ (zk _)
   have h10:=jxx M hM hn hU (qky M E) (by unfold qky;omega)
   rw [show qml M (qky M E)=_ from jyq hC hP hU hE (zk _),zaq] at h10
   have h6:=juq (E.map zEv) (E.map zEv) (by simp;omega)
   rw [zn rfl] at h6
   generalize qky M E=T at h8 h9 h10
   refine zK {} 300 Tryz.func4 (fun c0 rdb=>?_)
   (repeat' ((conv=>whnf);first|refine Ob.auto ?_|refine zC 300 (qyc) ?_|refine zC 300 (hm) ?_|refine zC 300 (h4) ?_|refine zC 300 (h8) ?_|refine zC 300 (h9) ?_|(apply zB <;> intro hb <;> (try simp [-zd] at hb) <;> try (exfalso;omega))))
   ((conv=>whnf);refine zT 300 [] (h5) qa ?_)
   have hz:=hE.len
   ((conv=>whnf);refine qn (fun _=>rfl) 300 1 (fun i:Nat=>[(10,iv i)]) (fun i=>[(2,.row [] 40 6 0 E.length (encL Ev.cells {} (zN E i)))]) (fun i=>i≤E.length) (fun i=>E.length - i) (0) (zv _) qa qa (fun _=>rfl) (by kernel_rfl) ?_;(conv=>whnf))
   intro i hi
   by_cases hie:i<E.length
   ·(repeat' ((conv=>whnf);first|refine Ob.auto ?_|(apply zB <;> intro hb <;> (try simp [-zd] at hb) <;> try (exfalso;omega))))
    ((conv=>whnf);refine ⟨i+1,by omega,⟨qa,⟨⟨⟨rfl,rfl,rfl⟩,rfl,rfl,fun k hk=>LeL.of_eq (jyw E i k)⟩,trivial⟩⟩,⟨qa,qa⟩,?_⟩;(first|omega|(dsimp only;omega)|skip))
   ·obtain rfl:i=E.length:=by omega
    rw [show zN E E.length=E.map zEv by simp [zN]]
    rw [show E.length=(E.map zEv).length from (xj _).symm]
    (repeat' ((conv=>whnf);first|refine Ob.auto ?_|refine zC 300 (h10) ?_|refine zF 300 (fun hg=>h6) ?_|(apply zB <;> intro hb <;> (try simp [-zd] at hb) <;> try (exfalso;omega))))
    all_goals exact Le.refl _
  ·refine zK {} 300 Tryz.func4 (fun c0 rdb=>?_)
   (repeat' ((conv=>whnf);first|refine Ob.auto ?_|refine zC 300 (qyc) ?_|(apply zB <;> intro hb <;> (try simp [-zd] at hb) <;> try (exfalso;omega))))
   all_goals exact Le.refl _
end Go.Proofs.YtcfllgdfhfcicaaGreatDoor
end
