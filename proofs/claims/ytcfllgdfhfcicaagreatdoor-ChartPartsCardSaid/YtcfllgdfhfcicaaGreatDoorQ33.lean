/- Some texts of the library, one behind the other. -/
import Derived.Test.YtcfllgdfhfcicaaGreatDoorQ29
import Derived.Test.YtcfllgdfhfcicaaGreatDoorQ32
import Derived.Test.YtcfllgdfhfcicaaGreatDoorQ23
import Derived.Test.YtcfllgdfhfcicaaGreatDoorQ25
import Derived.Lib.ItoaLen
import Derived.Lib.Join
import Derived.Test.YtcfllgdfhfcicaaGreatDoorQ2
set_option linter.unusedSimpArgs false
set_option linter.unusedVariables false
section
namespace Go.Proofs.YtcfllgdfhfcicaaGreatDoor
open List renaming getD_eq_getElem?_getD → zd
open Go Go.Sx Go.RowKit Go.St
set_option maxRecDepth 100000
set_option maxHeartbeats 4000000
theorem qxs {m:Md} {s:Stt} {v:Mv} (h:je m s v=true):(v.kind=1∧(0≤v.chn∧v.chn<m.chans.length)∧0<(s.chans.getD v.chn.toNat []).length)∨(v.kind=2∧(0≤v.chn∧v.chn<m.chans.length)∧0<(s.chans.getD v.chn.toNat []).length)∨(v.kind=0∧(0≤v.proc∧v.proc<m.procs.length)∧(0≤v.edge∧v.edge<(m.procs.getD v.proc.toNat pr0).edges.length)∧canB m s v.proc.toNat ((m.procs.getD v.proc.toNat pr0).edges.getD v.edge.toNat ed0)=true):=by
 cases qpe h with
 | lose c hc hq=>exact .inl ⟨rfl,⟨xr _,Int.ofNat_lt.2 hc⟩,hq⟩
 | copy c hc hq=>exact .inr (.inl ⟨rfl,⟨xr _,Int.ofNat_lt.2 hc⟩,hq⟩)
 | edge P e hP he hcan=>exact .inr (.inr ⟨rfl,⟨xr _,Int.ofNat_lt.2 hP⟩,⟨xr _,Int.ofNat_lt.2 he⟩,hcan⟩)
theorem jvf {m:Md} (hM:ModOk m) {s:Stt} {v:Mv} (h:je m s v=true) (hk:v.kind=0) (h2:(edOf m v).act=2) (hl:s.chans.length=m.chans.length):0<((qu m s v).chans.getD (edOf m v).chn.toNat []).length:=by
 cases qpe h with
 | lose c hc hq=>simp at hk
 | copy c hc hq=>simp at hk
 | edge P e hP he hcan=>
  have hed:=edOk hM hP he
  have hte:edOf m ⟨0,P,e,0⟩=(edgesOf m P).getD e ed0:=rfl
  rw [hte] at h2 ⊢
  rw [qxr]
  generalize (edgesOf m P).getD e ed0=d at h2 hed ⊢
  have hch:=hed.chn (.inl h2)
  unfold qbq qn
  simp only
  rw [za (by omega),zb h2]
  simp only
  rw [qdm,zb ⟨rfl,by omega⟩,zg]
  exact Nat.succ_pos _
theorem jvg (m:Md) (hM:ModOk m) (h0:qm m (qt m)=true) (l:List Mv) (hl:l.length≤1000000):Con Tryz.prog 14 [m.av,qgc l] (evsV (qcd m l)):=by
 have hst:=jve m hM h0 l hl
 have hn:=qse m l
 have hlen:(qii m l).length=nF m l+1:=by simp [qii]
 have hget:∀ i,i≤nF m l→(qii m l).getD i st0z=stN m l i:=fun i hi=>by unfold qii;rw [jbt _ _ _ _ (by omega)]
 generalize qii m l=A at hst hlen hget
 have hEl:=qou m l
 refine zK {lit:=true,owns:=[(6,(40,6))]} 300 Tryz.func14 (fun c0 rdb=>?_)
 (repeat' ((conv=>whnf);first|refine zC 300 (hst) ?_|fail))
 ((conv=>whnf);refine qo (fun _=>rfl) 300 1 (fun i:Nat=>[(7,iv i),(6,.own 1 0 0 (evN m l i).length)]) (fun i=>[(1,.row [] 40 6 0 (evN m l i).length (encL Ev.cells {} (evN m l i)))]) (fun i=>i≤nF m l) (fun i=>nF m l - i) (0) (zx _) qa ⟨qaz (fun k hk=>absurd hk (zh k)),trivial⟩ (fun _=>rfl) (by kernel_rfl) ?_;(conv=>whnf))
 intro i hi
 have hEi:=hEl i
 by_cases hin:i<nF m l
 ·have hok:je m (stN m l i) (l.getD i {})=true:=hn.2.1 i hin
  have hf:=qhf hM h0 (fun j hj=>hn.2.1 j (by omega:j<nF m l)) (i:=i)
  have hA:=hget i (by omega)
  have hcl:=((jg m _).1 hf).1.2.2.1
  have hEn:evN m l (i+1)=evN m l i++(evOf m (stN m l i) (stN m l (i+1)) i (l.getD i {}) (evN m l i)).toList:=rfl
  have hfr:=fun c=>jun (evN m l i) (by omega) c
  generalize evN m l i=E at hEi hEn hfr ⊢
  rcases qxs hok with ⟨hk,hc,hq⟩|⟨hk,hc,hq⟩|⟨hk,hP,he,hcan⟩
  ·rw [← hA] at hq hcl
   have hk1:inR .i64 ((l.getD i {}).kind+1):=⟨show (-9223372036854775808:Int)≤(l.getD i {}).kind+1 by omega,show (l.getD i {}).kind+1≤9223372036854775807 by omega⟩
   have hfc:=hfr (l.getD i {}).chn
   have hE1:E++[⟨(l.getD i {}).kind+1,i,-1,(l.getD i {}).chn,((A.getD i st0z).chans.getD (l.getD i {}).chn.toNat []).getD 0 0,jo E (l.getD i {}).chn⟩]=evN m l (i+1):=by
    rw [hEn,hA]
    unfold evOf jy
    rw [zb hk]
    rw [hk];rfl
   (repeat' ((conv=>whnf);first|refine zO ?_|refine Ob.auto ?_|refine zE 300 (hfc) ?_|refine zD 300 ?_|(apply zB <;> intro hb <;> (try simp [-zd] at hb) <;> try (exfalso;omega))))
   ((conv=>whnf);refine ⟨i+1,by omega,⟨⟨Le.refl _,qjn hE1 1,trivial⟩,⟨qhg Ev.cells {} hE1 rfl,trivial⟩⟩,⟨qa,qa⟩,?_⟩;(first|omega|(dsimp only;omega)|skip))
  ·rw [← hA] at hq hcl
   have hk1:inR .i64 ((l.getD i {}).kind+1):=⟨show (-9223372036854775808:Int)≤(l.getD i {}).kind+1 by omega,show (l.getD i {}).kind+1≤9223372036854775807 by omega⟩
   have hfc:=hfr (l.getD i {}).chn
   have hE1:E++[⟨(l.getD i {}).kind+1,i,-1,(l.getD i {}).chn,((A.getD i st0z).chans.getD (l.getD i {}).chn.toNat []).getD 0 0,jo E (l.getD i {}).chn⟩]=evN m l (i+1):=by
    rw [hEn,hA]
    unfold evOf jy
    rw [za (by omega),zb hk]
    rw [hk];rfl
   (repeat' ((conv=>whnf);first|refine zO ?_|refine Ob.auto ?_|refine zE 300 (hfc) ?_|refine zD 300 ?_|(apply zB <;> intro hb <;> (try simp [-zd] at hb) <;> try (exfalso;omega))))
   ((conv=>whnf);refine ⟨i+1,by omega,⟨⟨Le.refl _,qjn hE1 1,trivial⟩,⟨qhg Ev.cells {} hE1 rfl,trivial⟩⟩,⟨qa,qa⟩,?_⟩;(first|omega|(dsimp only;omega)|skip))
  ·have hed:=edOk hM (p:=(l.getD i {}).proc.toNat) (i:=(l.getD i {}).edge.toNat) (by omega) (show (l.getD i {}).edge.toNat<(m.procs.getD (l.getD i {}).proc.toNat pr0).edges.length by omega)
   have hedd:EdOk m.tree.length m.vars.length m.chans.length (m.procs.getD (l.getD i {}).proc.toNat pr0).places ((m.procs.getD (l.getD i {}).proc.toNat pr0).edges.getD (l.getD i {}).edge.toNat ed0):=hed
   have hfc:=hfr ((m.procs.getD (l.getD i {}).proc.toNat pr0).edges.getD (l.getD i {}).edge.toNat ed0).chn
   by_cases h2:((m.procs.getD (l.getD i {}).proc.toNat pr0).edges.getD (l.getD i {}).edge.toNat ed0).act=2
   ·have hch:=hedd.chn (.inl h2)
    have hB:=hget (i+1) (by omega)
    have hf1:=qhf hM h0 (fun j hj=>hn.2.1 j (by omega:j<nF m l)) (i:=i+1)
    have htl:=((jg m _).1 hf1).1.2.2.1
    have hpos:=jvf hM hok hk h2 hcl
    have hb1:=(qcs hM hf1).l _ (qe _ ((m.procs.getD (l.getD i {}).proc.toNat pr0).edges.getD (l.getD i {}).edge.toNat ed0).chn.toNat [] (by omega))
    rw [show qu m (stN m l i) (l.getD i {})=stN m l (i+1) from rfl] at hpos
    have hpos:0<((stN m l (i+1)).chans.getD ((m.procs.getD (l.getD i {}).proc.toNat pr0).edges.getD (l.getD i {}).edge.toNat ed0).chn.toNat []).length:=hpos
    rw [← hB] at htl hpos hb1
    have o1:0≤((m.procs.getD (l.getD i {}).proc.toNat pr0).edges.getD (l.getD i {}).edge.toNat ed0).chn∧((m.procs.getD (l.getD i {}).proc.toNat pr0).edges.getD (l.getD i {}).edge.toNat ed0).chn<((A.getD (i+1) st0z).chans.length:Int):=by omega
    have o2:inR .i64 ((((A.getD (i+1) st0z).chans.getD ((m.procs.getD (l.getD i {}).proc.toNat pr0).edges.getD (l.getD i {}).edge.toNat ed0).chn.toNat []).length:Int) - 1):=⟨show (-9223372036854775808:Int)≤(((A.getD (i+1) st0z).chans.getD ((m.procs.getD (l.getD i {}).proc.toNat pr0).edges.getD (l.getD i {}).edge.toNat ed0).chn.toNat []).length:Int) - 1 by omega,show (((A.getD (i+1) st0z).chans.getD ((m.procs.getD (l.getD i {}).proc.toNat pr0).edges.getD (l.getD i {}).edge.toNat ed0).chn.toNat []).length:Int) - 1≤9223372036854775807 by omega⟩
    have o3:0≤(((A.getD (i+1) st0z).chans.getD ((m.procs.getD (l.getD i {}).proc.toNat pr0).edges.getD (l.getD i {}).edge.toNat ed0).chn.toNat []).length:Int) - 1∧(((A.getD (i+1) st0z).chans.getD ((m.procs.getD (l.getD i {}).proc.toNat pr0).edges.getD (l.getD i {}).edge.toNat ed0).chn.toNat []).length:Int) - 1<(((A.getD (i+1) st0z).chans.getD ((m.procs.getD (l.getD i {}).proc.toNat pr0).edges.getD (l.getD i {}).edge.toNat ed0).chn.toNat []).length:Int):=by omega
    have hE1:E++[⟨0,i,(l.getD i {}).proc,((m.procs.getD (l.getD i {}).proc.toNat pr0).edges.getD (l.getD i {}).edge.toNat ed0).chn,((A.getD (i+1) st0z).chans.getD ((m.procs.getD (l.getD i {}).proc.toNat pr0).edges.getD (l.getD i {}).edge.toNat ed0).chn.toNat []).getD ((((A.getD (i+1) st0z).chans.getD ((m.procs.getD (l.getD i {}).proc.toNat pr0).edges.getD (l.getD i {}).edge.toNat ed0).chn.toNat []).length:Int) - 1).toNat 0,-1⟩]=evN m l (i+1):=by
     rw [hEn,hB]
     unfold evOf qdn
     rw [za (by omega),za (by omega),zb (show (edOf m (l.getD i {})).act=2 from h2),show ∀ n:Nat,((n:Int) - 1).toNat=n - 1 from fun n=>by omega]
     rfl
    (repeat' ((conv=>whnf);first|refine zO ?_|refine Ob.auto ?_|refine zD 300 ?_|(apply zB <;> intro hb <;> (try simp [-zd] at hb) <;> try (exfalso;omega))))
    ((conv=>whnf);refine ⟨i+1,by omega,⟨⟨Le.refl _,qjn hE1 1,trivial⟩,⟨qhg Ev.cells {} hE1 rfl,trivial⟩⟩,⟨qa,qa⟩,?_⟩;(first|omega|(dsimp only;omega)|skip))
   ·by_cases h3:((m.procs.getD (l.getD i {}).proc.toNat pr0).edges.getD (l.getD i {}).edge.toNat ed0).act=3
    ·have hch:=hedd.chn (.inr h3)
     have hq:0<((stN m l i).chans.getD ((m.procs.getD (l.getD i {}).proc.toNat pr0).edges.getD (l.getD i {}).edge.toNat ed0).chn.toNat []).length:=qsl hcan h3
     rw [← hA] at hq hcl
     have o1:0≤((m.procs.getD (l.getD i {}).proc.toNat pr0).edges.getD (l.getD i {}).edge.toNat ed0).chn∧((m.procs.getD (l.getD i {}).proc.toNat pr0).edges.getD (l.getD i {}).edge.toNat ed0).chn<((A.getD i st0z).chans.length:Int):=by omega
     have o2:(0:Int)≤0∧0<(((A.getD i st0z).chans.getD ((m.procs.getD (l.getD i {}).proc.toNat pr0).edges.getD (l.getD i {}).edge.toNat ed0).chn.toNat []).length:Int):=by omega
     have hE1:E++[⟨1,i,(l.getD i {}).proc,((m.procs.getD (l.getD i {}).proc.toNat pr0).edges.getD (l.getD i {}).edge.toNat ed0).chn,((A.getD i st0z).chans.getD ((m.procs.getD (l.getD i {}).proc.toNat pr0).edges.getD (l.getD i {}).edge.toNat ed0).chn.toNat []).getD 0 0,jo E ((m.procs.getD (l.getD i {}).proc.toNat pr0).edges.getD (l.getD i {}).edge.toNat ed0).chn⟩]=evN m l (i+1):=by
      rw [hEn,hA]
      unfold evOf jy
      rw [za (by omega),za (by omega),za (show ¬ (edOf m (l.getD i {})).act=2 from h2),zb (show (edOf m (l.getD i {})).act=3 from h3)]
      rfl
     (repeat' ((conv=>whnf);first|refine zO ?_|refine Ob.auto ?_|refine zE 300 (hfc) ?_|refine zD 300 ?_|(apply zB <;> intro hb <;> (try simp [-zd] at hb) <;> try (exfalso;omega))))
     ((conv=>whnf);refine ⟨i+1,by omega,⟨⟨Le.refl _,qjn hE1 1,trivial⟩,⟨qhg Ev.cells {} hE1 rfl,trivial⟩⟩,⟨qa,qa⟩,?_⟩;(first|omega|(dsimp only;omega)|skip))
    ·have hE1:E=evN m l (i+1):=by
      rw [hEn]
      unfold evOf
      rw [za (by omega),za (by omega),za (show ¬ (edOf m (l.getD i {})).act=2 from h2),za (show ¬ (edOf m (l.getD i {})).act=3 from h3)]
      exact (zac _).symm
     clear hEn
     (repeat' ((conv=>whnf);first|refine zO ?_|refine Ob.auto ?_|refine zD 300 ?_|(apply zB <;> intro hb <;> (try simp [-zd] at hb) <;> try (exfalso;omega))))
     ((conv=>whnf);refine ⟨i+1,by omega,⟨⟨Le.refl _,qkx hE1 1,trivial⟩,⟨qkw Ev.cells {} hE1,trivial⟩⟩,⟨qa,qa⟩,?_⟩;(first|omega|(dsimp only;omega)|skip))
 ·obtain rfl:i=nF m l:=by omega
  (repeat' ((conv=>whnf);first|refine Ob.auto ?_|(apply zB <;> intro hb <;> (try simp [-zd] at hb) <;> try (exfalso;omega))))
  exact Le.refl _
structure NmOk (m:Md):Prop where
 chan:∀ c∈m.chans,c.name.length≤12
 proc:∀ q∈m.procs,q.name.length≤12∧0≤q.copy∧q.copy≤1000000
def NC (p q:Pr):Prop:=q.name=p.name∧q.copy=p.copy
theorem NC.refl (p:Pr):NC p p:=⟨rfl,rfl⟩
theorem NC.trans {p q r:Pr} (h:NC p q) (k:NC q r):NC p r:=⟨k.1.trans h.1,k.2.trans h.2⟩
theorem qsm (st:Pr→Int→Int→Int→Pr) (node:Int) (h:∀ p k a b,NC p (st p k a b)):∀ (l:List Int) (p:Pr) (a b:Int),NC p (qay st node p l a b)
 | [],p,a,b=>⟨rfl,rfl⟩
 | [k],p,a,b=>h p k a b
 | k::k'::r,p,a,b=>by
  have h1:NC p (qg p):=⟨rfl,rfl⟩
  exact (h1.trans (h _ k a p.places)).trans (qsm st node h (k'::r) _ _ _)
theorem jgp {α:Type} (f:Pr→α→Pr) (h:∀ p x,NC p (f p x)):∀ (l:List α) (p:Pr),NC p (l.foldl f p)
 | [],p=>NC.refl p
 | x::l,p=>by rw [zab];exact (h p x).trans (jgp f h l _)
theorem qex (p:Pr) (a b c d e f g:Int):NC p (putF p a b c d e f g):=⟨rfl,rfl⟩
theorem qpf (p:Pr):NC p (qg p):=⟨rfl,rfl⟩
theorem qxt (p:Pr) (a b:Int):NC p (jx p a b):=⟨rfl,rfl⟩
theorem qxu (l:List Nd) (cs:List Ch):∀ (f:Nat) (p:Pr) (a b c:Int),NC p (qc l cs f p a b c)
 | 0,p,a,b,c=>NC.refl p
 | f+1,p,a,b,c=>by
  have hb:∀ (p:Pr) (k x y:Int),NC p (qay (qc l cs f) k p (l.getD k.toNat nd0).kids x y):=fun p k x y=>qsm _ _ (qxu l cs f) _ _ _ _
  unfold qc
  simp only
  split
  ·exact qex ..
  split
  ·exact qex ..
  split
  ·exact (qxt p _ _).trans (qex ..)
  split
  ·exact (qxt p _ _).trans (qex ..)
  split
  ·refine (qxt p _ _).trans (jgp _ (fun q k=>?_) _ _)
   unfold qhd
   split
   ·exact ((qpf q).trans (qex ..)).trans (hb _ _ _ _)
   ·exact hb _ _ _ _
  split
  ·split
   ·exact (((qpf p).trans (qex ..)).trans (hb _ _ _ _)).trans (qex ..)
   ·exact ((((qpf p).trans (qex ..)).trans (hb _ _ _ _)).trans ((qpf _).trans (qex ..))).trans (hb _ _ _ _)
  split
  ·exact (((qpf p).trans (qex ..)).trans (qex ..)).trans (hb _ _ _ _)
  split
  ·exact (hb p _ _ _).trans ⟨rfl,rfl⟩
  split
  ·exact qex ..
  ·exact qex ..
theorem qxv (l:List Nd):∀ (ks:List Int) (x:Pr × List Vr),NC x.1 (ks.foldl (qcp l) x).1
 | [],x=>NC.refl _
 | k::ks,x=>by rw [zab];exact NC.trans (q:=(qcp l x k).1) ⟨rfl,rfl⟩ (qxv l ks _)
theorem qsn (l:List Nd) (cs:List Ch) (k:Int) (seen:Nat):∀ (n:Nat) (x:List Vr × List Pr),∀ q∈((List.range n).foldl (qby l cs k seen) x).2,q∈x.2∨(q.name=(l.getD k.toNat nd0).words.getD 0 []∧0≤q.copy∧q.copy<n)
 | 0,x,q,hq=>.inl hq
 | n+1,x,q,hq=>by
  rw [zat,xu,zab,List.foldl_nil] at hq
  have ih:=qsn l cs k seen n x q
  generalize (List.range n).foldl (qby l cs k seen) x=y at hq ih
  unfold qby at hq
  simp only [xk,zm] at hq
  rcases hq with hq|rfl
  ·rcases ih hq with h|h
   ·exact .inl h
   ·exact .inr ⟨h.1,h.2.1,by omega⟩
  ·right
   have h1:=qsm (qc l cs 20) k (qxu l cs 20) ((l.getD k.toNat nd0).kids.drop (varsN l (l.getD k.toNat nd0))) (((l.getD k.toNat nd0).kids.take (varsN l (l.getD k.toNat nd0))).foldl (qcp l) (qfz l y.1 seen k n,y.1)).1 0 1
   have h2:=qxv l ((l.getD k.toNat nd0).kids.take (varsN l (l.getD k.toNat nd0))) (qfz l y.1 seen k n,y.1)
   have h3:=h2.trans h1
   refine ⟨h3.1,?_,?_⟩
   ·rw [h3.2];exact xr n
   ·rw [h3.2];show (n:Int)<((n+1:Nat):Int);omega
theorem jvh {s:List UInt8} (h:nameF s=true):s.length≤12:=by
 unfold nameF at h
 simp only [zf,zaf,xw,decide_eq_false_iff_not] at h
 omega
theorem jgq {l:List Nd} (h:Go.St.rightB l=true) {k:Int} (hk:qi l k=1∨qi l k=3):((l.getD k.toNat nd0).words.getD 0 []).length≤12∧(qi l k=3→(l.getD k.toNat nd0).nums.getD 0 0≤999999):=by
 have ht:=qwj h
 have hkl:k.toNat<l.length:=by
  rcases Nat.lt_or_ge k.toNat l.length with h|h
  ·exact h
  ·unfold qi at hk
   rw [zd,xe h] at hk
   rcases hk with hk|hk <;> exact absurd hk (by decide)
 have hn:=ht.node k.toNat hkl
 unfold qi at hk ⊢
 generalize l.getD k.toNat nd0=n at hn hk ⊢
 have key:wordsB n 1=true→(n.words.getD 0 []).length≤12:=fun hw=>by
  unfold wordsB at hw
  rw [zf,xn,xz] at hw
  exact jvh (hw.1 _ (qe n.words 0 [] (by omega)))
 rcases hk with hk|hk
 ·unfold nodeB at hn
  rw [za (by omega),zb hk] at hn
  simp only [zf] at hn
  exact ⟨key hn.1.1.1.1,fun h=>by omega⟩
 ·unfold nodeB at hn
  rw [za (by omega),za (by omega),za (by omega),zb hk] at hn
  simp only [zf] at hn
  refine ⟨key hn.1.1,fun _=>?_⟩
  have h2:=hn.1.2
  unfold numsB at h2
  rw [zf,xn,xz] at h2
  have:=h2.1 _ (qe n.nums 0 0 (by omega))
  rw [zf,xd,xd] at this
  exact this.2
theorem jgr {l:List Nd} (h:Go.St.rightB l=true) (cs:List Ch):∀ (ks:List Int) (x:Nat × List Vr × List Pr),(∀ q∈x.2.2,q.name.length≤12∧0≤q.copy∧q.copy≤1000000)→∀ q∈(ks.foldl (qbz l cs) x).2.2,q.name.length≤12∧0≤q.copy∧q.copy≤1000000
 | [],x,hx=>hx
 | k::ks,x,hx=>by
  rw [zab]
  refine jgr h cs ks _ ?_
  unfold qbz
  simp only
  split
  ·rename_i hk
   intro q hq
   have hn:=jgq h (k:=k) (.inr hk)
   rcases qsn l cs k _ _ _ q hq with hq|⟨h1,h2,h3⟩
   ·exact hx q hq
   ·have:=hn.2 hk
    exact ⟨by rw [h1];exact hn.1,h2,by omega⟩
  ·exact hx
theorem jgs {l:List Nd} (h:Go.St.rightB l=true):∀ (ks:List Int) (m:Md),(∀ c∈m.chans,c.name.length≤12)→∀ c∈(ks.foldl (qej l) m).chans,c.name.length≤12
 | [],m,hm=>hm
 | k::ks,m,hm=>by
  rw [zab]
  refine jgs h ks _ ?_
  unfold qej
  simp only
  split
  ·rename_i hk
   intro c hc
   simp only [xk,zm] at hc
   rcases hc with hc|rfl
   ·exact hm c hc
   ·exact (jgq h (k:=k) (.inl hk)).1
  split
  ·exact hm
  split
  ·exact hm
  split
  ·exact hm
  ·exact hm
theorem jgt {l:List Nd} (h:Go.St.rightB l=true):NmOk (qcq l) where
 chan:=by
  show ∀ c∈(qbs l).chans,_
  exact jgs h _ _ (fun c hc=>by simp at hc)
 proc:=jgr h _ _ _ (fun q hq=>by simp at hq)
structure EvOk (m:Md) (e:Ev):Prop where
 kind:0≤e.kind∧e.kind≤3
 chn:0≤e.ch∧e.ch<m.chans.length
 prc:-1≤e.prc∧e.prc<m.procs.length
 msg:-999999≤e.msg∧e.msg≤999999
 frm:-1≤e.frm∧e.frm≤1000000
theorem qso {m:Md} {s:Stt} (h:qm m s=true) (c k:Nat):-999999≤(s.chans.getD c []).getD k 0∧(s.chans.getD c []).getD k 0≤999999:=by
 have hf:=(jg m s).1 h
 by_cases hc:c<s.chans.length
 ·by_cases hk:k<(s.chans.getD c []).length
  ·have:=(hf.2.2.2 c hc).2 k hk
   unfold qkk at this
   have ht:=qrh ((s.chans.getD c []).getD k 0) (m.chans.getD c ch0).width
   rw [this] at ht
   omega
  ·rw [zd (i:=k),xe (by omega)]
   decide
 ·rw [zd (i:=c),xe (by omega)]
  simp
theorem jvi (E:List Ev) (c:Int) (hE:E.length≤1000000):-1≤jo E c∧jo E c≤1000000:=by
 unfold jo
 split
 ·rename_i j hj
  have h1:=zl hj
  unfold jt at h1
  have:=List.mem_range.1 (List.mem_filter.1 h1).1
  omega
 ·omega
theorem jgu {m:Md} (hM:ModOk m) (h0:qm m (qt m)=true) {l:List Mv} (hl:l.length≤1000000):∀ (i:Nat),i≤l.length→(∀ j,j<i→okN m l j=true)→∀ e∈evN m l i,EvOk m e
 | 0,_,_,e,he=>by simp [evN] at he
 | i+1,hi,h,e,he=>by
  unfold evN at he
  rw [xk] at he
  rcases he with he|he
  ·exact jgu hM h0 hl i (by omega) (fun j hj=>h j (by omega)) e he
  ·have hok:je m (stN m l i) (l.getD i {})=true:=h i (by omega)
   have hfi:=qhf hM h0 (l:=l) (i:=i) (fun j hj=>h j (by omega))
   have hfn:=qhf hM h0 (l:=l) (i:=i+1) (fun j hj=>h j (by omega))
   have hE:=qou m l i
   have hfr:=fun c=>jvi (evN m l i) c (by omega)
   generalize evN m l i=E at he hfr hE
   have hv:=qxs hok
   generalize stN m l i=s at he hfi hv hok
   generalize stN m l (i+1)=t at he hfn
   generalize l.getD i {}=v at he hv hok
   unfold evOf at he
   split at he
   ·rename_i hk
    simp only [zbd,zm] at he
    subst he
    rcases hv with ⟨_,hc,_⟩|⟨hk',_⟩|⟨hk',_⟩
    ·exact ⟨by dsimp only;omega,hc,⟨by dsimp only;omega,by dsimp only;omega⟩,qso hfi _ _,hfr _⟩
    ·omega
    ·omega
   split at he
   ·rename_i hk
    simp only [zbd,zm] at he
    subst he
    rcases hv with ⟨hk',_⟩|⟨_,hc,_⟩|⟨hk',_⟩
    ·omega
    ·exact ⟨by dsimp only;omega,hc,⟨by dsimp only;omega,by dsimp only;omega⟩,qso hfi _ _,hfr _⟩
    ·omega
   rename_i hk1 hk2
   rcases hv with ⟨hk',_⟩|⟨hk',_⟩|⟨_,hP,hE',_⟩
   ·exact absurd hk' hk1
   ·exact absurd hk' hk2
   have hpr:=hM.pr _ (qe m.procs v.proc.toNat pr0 (by omega))
   have hed:=hpr.ed _ (qe (m.procs.getD v.proc.toNat pr0).edges v.edge.toNat ed0 (by omega))
   have hed:EdOk m.tree.length m.vars.length m.chans.length (m.procs.getD v.proc.toNat pr0).places (edOf m v):=hed
   split at he
   ·rename_i ha
    simp only [zbd,zm] at he
    subst he
    exact ⟨by dsimp only;omega,hed.chn (.inl ha),⟨by show (-1:Int)≤v.proc;omega,hP.2⟩,qso hfn _ _,by dsimp only;omega⟩
   split at he
   ·rename_i ha
    simp only [zbd,zm] at he
    subst he
    exact ⟨by dsimp only;omega,hed.chn (.inr ha),⟨by show (-1:Int)≤v.proc;omega,hP.2⟩,qso hfi _ _,hfr _⟩
   ·simp at he
theorem qxw {m:Md} (hM:ModOk m) (h0:qm m (qt m)=true) {l:List Mv} (hl:l.length≤1000000):(∀ e∈qcd m l,EvOk m e)∧(qcd m l).length≤l.length:=by
 have h:=qse m l
 exact ⟨jgu hM h0 hl _ h.1 h.2.1,xc (qou m l _) h.1⟩
def whoT (m:Md) (p:Int):List UInt8:=if 0≤p∧p<m.procs.length then (m.procs.getD p.toNat pr0).name++[46]++Lib.itoa (m.procs.getD p.toNat pr0).copy else [45]
def jp (k:Int):List UInt8:=if k=0 then [115,101,110,100] else if k=1 then [114,101,99,118] else if k=2 then [108,111,115,101] else if k=3 then [99,111,112,121] else [63]
def qas (m:Md) (i:Nat) (e:Ev):List UInt8:=
 Lib.itoa i++[32]++whoT m e.prc++[32]++jp e.kind++[32]++(m.chans.getD e.ch.toNat ch0).name++[32]++Lib.itoa e.msg++(if e.kind=0 then [] else [32,111,102,32]++Lib.itoa e.frm)++[10]
def qbf (m:Md) (E:List Ev) (i:Nat):List UInt8:=(List.range i).flatMap fun j=>qas m j (E.getD j {})
def jgv (m:Md) (E:List Ev):List UInt8:=qbf m E E.length
theorem qky (m:Md) (E:List Ev) (i:Nat):qbf m E (i+1)=qbf m E i++qas m i (E.getD i {}):=by
 unfold qbf
 rw [zat,List.flatMap_append]
 simp
theorem jgw {m:Md} (h:NmOk m) (p:Int):(whoT m p).length≤34:=by
 unfold whoT
 split
 ·rename_i hp
  have hq:=h.proc _ (qe m.procs p.toNat pr0 (by omega))
  have:=Lib.itoa_length_le (m.procs.getD p.toNat pr0).copy (by omega) (by omega)
  simp only [zg,zq]
  omega
 ·decide
theorem jgx (k:Int):(jp k).length≤4:=by
 unfold jp
 repeat' split
 all_goals decide
theorem qpg {m:Md} (h:NmOk m) {e:Ev} (he:EvOk m e) (i:Nat) (hi:i≤1000000):(qas m i e).length≤130:=by
 have h1:=Lib.itoa_length_le (i:Int) (by omega) (by omega)
 have h2:=jgw h e.prc
 have h3:=jgx e.kind
 have h4:=h.chan _ (qe m.chans e.ch.toNat ch0 (by have:=he.chn;omega))
 have h5:=Lib.itoa_length_le e.msg (by have:=he.msg;omega) (by have:=he.msg;omega)
 have h6:=Lib.itoa_length_le e.frm (by have:=he.frm;omega) (by have:=he.frm;omega)
 unfold qas
 split
 ·simp only [zg,xm,zay];omega
 ·simp only [zg,xm,zay];omega
theorem qsp {m:Md} (h:NmOk m) {E:List Ev} (hE:∀ e∈E,EvOk m e) (hl:E.length≤1000000):∀ i,i≤E.length→(qbf m E i).length≤130 * i
 | 0,_=>by simp [qbf]
 | i+1,hi=>by
  have h1:=qsp h hE hl i (by omega)
  have h2:=qpg h (hE _ (qe E i {} (by omega))) i (by omega)
  rw [qky,zg]
  omega
end Go.Proofs.YtcfllgdfhfcicaaGreatDoor
end
