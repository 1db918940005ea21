/- Some texts of the library, one behind the other. -/
import Derived.Test.YtikahnkkfkoglaaGreatDoorY117
import Derived.Test.YtikahnkkfkoglaaGreatDoorY118
import Derived.Test.YtikahnkkfkoglaaGreatDoorY116
import Derived.Test.YtikahnkkfkoglaaGreatDoorY12
import Derived.Test.YtikahnkkfkoglaaGreatDoorY114
import Derived.Shelf.SlLaysE0
import Derived.Test.YtikahnkkfkoglaaGreatDoorChecked
set_option linter.unusedSimpArgs false
set_option linter.unusedVariables false
section
namespace Go.Proofs.YtikahnkkfkoglaaGreatDoor
open List renaming getD_eq_getElem?_getD → zd
open Go Go.Sx Go.RowKit Go.St
set_option maxRecDepth 100000
set_option maxHeartbeats 4000000
theorem jdd (m:Md) (hM:ModOk m) (most:Int) (hm:most≤20000) (L:List Fnd) (hL:LOk m most L) (at_:Nat) (ha:at_<L.length) :
  Trip Tryz.prog 23 [.ptr 0 0,iv at_,.bfn 24 0,.fn 21 [.ptr 3 0,.ptr 4 0]] [kBox m most L,kMap L,kRow L,.box 29 m.cells,.box 4 [.bool false]]
   (.bool (qag m most (badB m) at_ L).2.1)
   [(0,kBox m most (qag m most (badB m) at_ L).1),(1,kMap (qag m most (badB m) at_ L).1),(2,kRow (qag m most (badB m) at_ L).1),(3,.box 29 m.cells),(4,.box 4 [.bool (qag m most (badB m) at_ L).2.2])] 5:=by
 have hle:=hL.le
 have hmem:L.getD at_ Fnd.none∈L:=by
  rw [zd,ze ha]
  exact xt ha
 have hfit:=hL.fit _ hmem
 have hdep:=hL.dep at_ ha
 have hml:=jct hM (L.getD at_ Fnd.none).s
 unfold qag
 have hmv:=qvv m hM (L.getD at_ Fnd.none).s hfit
 unfold kBox kRow kMap
 refine zM {} 300 Tryz.func23 (fun c0 rdb mpb=>?_)
 (repeat' ((conv=>whnf);first|refine zA ?_|refine zO ?_|refine Ob.auto ?_|refine zI ?_|refine zD 300 ?_|(apply zB <;> intro hb <;> (try simp [-zd] at hb) <;> try (exfalso;omega))|refine Ob.intro ?_ ?_))
 (repeat' ((conv=>whnf);first|refine zA ?_|refine zO ?_|refine Ob.auto ?_|refine zI ?_|refine zC 300 (hmv) ?_|refine zG 300 (fun hg=>hmv) ?_|(refine CallY.con (hmv) (by rfl) leA ?_)|(refine CallZ.con (fun hg=>hmv) jn (by rfl) ?_)|(refine ql (fun _=>rfl) 300 (hmv) qc (by (repeat' (first|exact trivial|exact Le.refl _|(refine And.intro ?_ ?_))) <;> fail) (by rfl) (by kernel_rfl) ?_)|(refine qw (fun _=>rfl) 300 (fun hg=>hmv) (fun hg=>qc) (fun hg=>(by (repeat' (first|exact trivial|exact Le.refl _|exact Le.cnd hg|(refine And.intro ?_ ?_))) <;> fail)) (by rfl) (by kernel_rfl) ?_)|refine zD 300 ?_|(refine zQ 300 ?_)|(apply zB <;> intro hb <;> (try simp [-zd] at hb) <;> try (exfalso;omega))|refine Ob.intro ?_ ?_))
 generalize hR:jz m most (badB m) (L.getD at_ Fnd.none) (at_:Int) (jb m (L.getD at_ Fnd.none).s) L=R
 ((conv=>whnf);refine qo (fun _=>rfl) 300 1 (fun g:Nat × List Fnd=>[(30,iv g.1)]) (fun g=>[(0,.box 71 (m.cells++[iv most,.own 2 0 0 g.2.length,.mapv 1])),(1,.box qz [.keys (qey g.2)]),(2,.row [] 67 10 0 g.2.length (encL Fnd.cells Fnd.none g.2)),(4,.box 4 [.bool false])]) (fun g=>g.1≤(jb m (L.getD at_ Fnd.none).s).length∧LOk m most g.2∧at_<g.2.length∧jz m most (badB m) (L.getD at_ Fnd.none) (at_:Int) ((jb m (L.getD at_ Fnd.none).s).drop g.1) g.2=R) (fun g=>(jb m (L.getD at_ Fnd.none).s).length - g.1) ((0,L)) (⟨xb _,hL,ha,hR⟩) qa qa (fun _=>rfl) (by kernel_rfl) ?_;(conv=>whnf))
 rintro ⟨i,K⟩ ⟨hi,hK,hak,hsp⟩
 simp only at hi hK hak hsp
 have hKle:=hK.le
 by_cases hil:i<(jb m (L.getD at_ Fnd.none).s).length
 ·have hv:qbp m (L.getD at_ Fnd.none).s ((jb m (L.getD at_ Fnd.none).s).getD i {})=true:=mem_movesF.1 (qm _ i {} hil)
  have hd1:inR .i64 ((L.getD at_ Fnd.none).depth+1):=⟨by show (-9223372036854775808:Int)≤_;omega,by show _≤(9223372036854775807:Int);omega⟩
  have hdo:=jdb m hM (L.getD at_ Fnd.none).s ((jb m (L.getD at_ Fnd.none).s).getD i {}) hfit hv
  have hs':=qvn hM hfit hv
  rw [qhj _ i {} hil,jz] at hsp
  have hadd:=qvp m hM most K (by omega) ⟨qac m (L.getD at_ Fnd.none).s ((jb m (L.getD at_ Fnd.none).s).getD i {}),at_,(jb m (L.getD at_ Fnd.none).s).getD i {},(L.getD at_ Fnd.none).depth+1⟩ hs'
  (repeat' ((conv=>whnf);first|refine zA ?_|refine zO ?_|refine Ob.auto ?_|refine zI ?_|refine zD 300 ?_|(apply zB <;> intro hb <;> (try simp [-zd] at hb) <;> try (exfalso;omega))|refine Ob.intro ?_ ?_))
  (repeat' ((conv=>whnf);first|refine zO ?_|refine Ob.auto ?_|(refine Ob.intro (by (first|exact ⟨by omega,by omega⟩|exact hd1)) ?_)|refine zC 300 (hdo) ?_|refine zG 300 (fun hg=>hdo) ?_|(refine CallY.con (hdo) (by rfl) leA ?_)|(refine CallZ.con (fun hg=>hdo) jn (by rfl) ?_)|(refine ql (fun _=>rfl) 300 (hdo) qc (by (repeat' (first|exact trivial|exact Le.refl _|(refine And.intro ?_ ?_))) <;> fail) (by rfl) (by kernel_rfl) ?_)|(refine qw (fun _=>rfl) 300 (fun hg=>hdo) (fun hg=>qc) (fun hg=>(by (repeat' (first|exact trivial|exact Le.refl _|exact Le.cnd hg|(refine And.intro ?_ ?_))) <;> fail)) (by rfl) (by kernel_rfl) ?_)|refine zD 300 ?_|(refine qay (fun _=>rfl) (by kernel_rfl) 300 ?_)|(apply zB <;> intro hb <;> (try simp [-zd] at hb) <;> try (exfalso;omega))|refine Ob.intro ?_ ?_))
  ((conv=>whnf);refine AltG.far 14 [0,5,6] (by kernel_rfl) farA (EndG.go ?_))
  (repeat' ((conv=>whnf);first|refine zA ?_|refine zO ?_|refine Ob.auto ?_|(refine Ob.intro (by (first|exact ⟨by omega,by omega⟩|exact hd1)) ?_)|refine zD 300 ?_|(apply zB <;> intro hb <;> (try simp [-zd] at hb) <;> try (exfalso;omega))|refine Ob.intro ?_ ?_))
  ((conv=>whnf);refine zT 300 [0,1,2] (hadd) qa ?_)
  generalize hA:addF most K ⟨qac m (L.getD at_ Fnd.none).s ((jb m (L.getD at_ Fnd.none).s).getD i {}),at_,(jb m (L.getD at_ Fnd.none).s).getD i {},(L.getD at_ Fnd.none).depth+1⟩=A at hsp
  have hKA:LOk m most A.1:=by rw [← hA];exact hK.add hs' (by simp only;omega) (by simp only;omega)
  have hAl:K.length≤A.1.length:=by rw [← hA];exact qoa _ _ _
  (repeat' ((conv=>whnf);first|refine zA ?_|refine zO ?_|refine Ob.auto ?_|(refine Ob.intro (by (first|exact ⟨by omega,by omega⟩|exact hd1)) ?_)|refine zD 300 ?_|(apply zB <;> intro hb <;> (try simp [-zd] at hb) <;> try (exfalso;omega))|refine Ob.intro ?_ ?_))
  ·have hA0:A.2=false:=by assumption
   rw [zb hA0] at hsp
   have hA1:A.1=K:=by
    rw [← hA] at hA0 ⊢
    rcases qrv most K ⟨qac m (L.getD at_ Fnd.none).s ((jb m (L.getD at_ Fnd.none).s).getD i {}),at_,(jb m (L.getD at_ Fnd.none).s).getD i {},(L.getD at_ Fnd.none).depth+1⟩ with e|⟨_,e1,e2⟩
    ·exact e
    ·unfold addF at hA0
     rw [za (by rw [e1];decide),za e2] at hA0
     cases hA0
   subst hsp
   obtain ⟨A1,A2⟩:=A
   simp only at hA1
   subst hA1
   exact ⟨Le.refl _,qa⟩
  ·have hA0:A.2=true:=by assumption
   have hlt:K.length<A.1.length:=by assumption
   have hg:decide ((K.length:Int)<(A.1.length:Int))=true:=xl (by omega)
   refine OpG.fcall rfl rfl hg hg rfl ?_
   have hbt:=qvx m hM (qac m (L.getD at_ Fnd.none).s ((jb m (L.getD at_ Fnd.none).s).getD i {})) hs' false
   generalize badB m (qac m (L.getD at_ Fnd.none).s ((jb m (L.getD at_ Fnd.none).s).getD i {}))=bb at hbt hsp
   ((conv=>whnf);refine zT 300 [3,4] (hbt) qa ?_)
   rw [za (by rw [hA0];decide)] at hsp
   (repeat' ((conv=>whnf);first|refine zA ?_|refine zO ?_|refine Ob.auto ?_|(refine Ob.intro (by (first|exact ⟨by omega,by omega⟩|exact hd1)) ?_)|refine zD 300 ?_|(apply zB <;> intro hb <;> (try simp [-zd] at hb) <;> try (exfalso;omega))|refine Ob.intro ?_ ?_))
   ·have hb1:bb=true:=hb.2
    subst hb1
    rw [zb ⟨hlt,rfl⟩] at hsp
    subst hsp
    exact ⟨Le.refl _,qa⟩
   ·have hb1:bb=false:=hb hlt
    subst hb1
    rw [za (fun h=>by cases h.2)] at hsp
    ((conv=>whnf);refine ⟨(i+1,A.1),⟨hil,hKA,xw hak hAl,hsp⟩,⟨qa,qa⟩,⟨qa,qa⟩,?_⟩;(first|omega|(dsimp only;omega)|skip))
  ·have hA0:A.2=true:=by assumption
   have hle1:A.1.length≤K.length:=by assumption
   rw [za (by rw [hA0];decide),za (fun h=>by omega)] at hsp
   ((conv=>whnf);refine ⟨(i+1,A.1),⟨hil,hKA,xw hak hAl,hsp⟩,⟨qa,qa⟩,⟨qa,qa⟩,?_⟩;(first|omega|(dsimp only;omega)|skip))
 ·obtain rfl:i=(jb m (L.getD at_ Fnd.none).s).length:=by omega
  rw [List.drop_length,jz] at hsp
  subst hsp
  (repeat' ((conv=>whnf);first|refine zA ?_|refine zO ?_|refine Ob.auto ?_|refine zI ?_|refine zD 300 ?_|(apply zB <;> intro hb <;> (try simp [-zd] at hb) <;> try (exfalso;omega))|refine Ob.intro ?_ ?_))
  exact ⟨Le.refl _,qa⟩
end Go.Proofs.YtikahnkkfkoglaaGreatDoor
end
section
namespace Go.Proofs.YtikahnkkfkoglaaGreatDoor
open Go Go.Sx Go.St
theorem qrz (m:Md) (most:Int) (bad:Stt→Bool) (g:Fnd) (a:Int):∀ (r:List Mv) (L:List Fnd),L.length≤(jz m most bad g a r L).1.length
 | [],L=>zi _
 | v::r,L=>by
  rw [jz]
  split
  ·exact zi _
  split
  ·exact qoa _ _ _
  ·exact zv (qoa most L _) (qrz m most bad g a r _)
theorem jpw {x y:Int} (hxy:x≤y) {L:List Fnd} (hL:(L.length:Int)≤x) (f:Fnd) (h:(addF x L f).2=true):addF y L f=addF x L f∧((addF x L f).1.length:Int)≤x:=by
 unfold addF at h ⊢
 by_cases hk:qlp L f.s=true
 ·rw [zb hk,zb hk]
  exact ⟨rfl,hL⟩
 ·rw [za hk] at h ⊢
  rw [za hk]
  by_cases hl:(L.length:Int)=x
  ·rw [zb hl] at h;cases h
  ·rw [za hl,za (by omega)]
   refine ⟨rfl,?_⟩
   simp only [zg,xf]
   omega
theorem jpx {x:Int} {L:List Fnd} {f:Fnd} (h:(addF x L f).2=false):(L.length:Int)=x:=by
 unfold addF at h
 split at h
 ·cases h
 split at h
 ·assumption
 ·cases h
theorem jde {m:Md} {bad:Stt→Bool} {g:Fnd} {a:Int} {x y:Int} (hxy:x≤y):∀ (r:List Mv) (L:List Fnd),(L.length:Int)≤x→
  ((jz m x bad g a r L).2.1=true∨(jz m x bad g a r L).2.2=true→jz m y bad g a r L=jz m x bad g a r L)∧(jz m x bad g a r L).1.length≤(jz m y bad g a r L).1.length ∧
  ((jz m x bad g a r L).2.1=false→(jz m x bad g a r L).2.2=false→((jz m x bad g a r L).1.length:Int)=x)∧((jz m x bad g a r L).1.length:Int)≤x
 | [],L,hL=>⟨fun _=>rfl,zi _,(fun h=>by cases h),hL⟩
 | v::r,L,hL=>by
  have hlen:=qrz m y bad g a (v::r) L
  rw [jz]
  by_cases h1:(addF x L ⟨qac m g.s v,a,v,g.depth+1⟩).2=false
  ·rw [zb h1]
   exact ⟨(fun h=>by rcases h with h|h <;> cases h),hlen,fun _ _=>jpx h1,hL⟩
  ·have h1':(addF x L ⟨qac m g.s v,a,v,g.depth+1⟩).2=true:=by simpa using h1
   obtain ⟨e,hl⟩:=jpw hxy hL _ h1'
   have ey:jz m y bad g a (v::r) L=if L.length<(addF x L ⟨qac m g.s v,a,v,g.depth+1⟩).1.length∧bad (qac m g.s v)=true then ((addF x L ⟨qac m g.s v,a,v,g.depth+1⟩).1,false,true) else jz m y bad g a r (addF x L ⟨qac m g.s v,a,v,g.depth+1⟩).1:=by
    rw [jz,e,za h1]
   rw [ey,za h1]
   by_cases h2:L.length<(addF x L ⟨qac m g.s v,a,v,g.depth+1⟩).1.length∧bad (qac m g.s v)=true
   ·rw [zb h2,zb h2]
    exact ⟨fun _=>rfl,zi _,(fun _ h=>by cases h),hl⟩
   ·rw [za h2,za h2]
    exact jde hxy r _ hl
theorem qvz (m:Md) (most:Int):∀ (n at_:Nat) (L:List Fnd),L.length≤(qby m most n at_ L).1.length
 | 0,_,L=>zi _
 | n+1,at_,L=>by
  rw [qby]
  split
  ·have h:=qrz m most (badB m) (L.getD at_ Fnd.none) at_ (jb m (L.getD at_ Fnd.none).s) L
   split
   ·exact zv h (qvz m most n _ _)
   ·exact h
  ·exact zi _
theorem qwa {m:Md} {x y:Int} (hxy:x≤y):∀ (n at_:Nat) (L:List Fnd),(L.length:Int)≤x→
  ((qby m x n at_ L).2.1=true∨(qby m x n at_ L).2.2=true→qby m y n at_ L=qby m x n at_ L)∧(qby m x n at_ L).1.length≤(qby m y n at_ L).1.length∧((qby m x n at_ L).1.length:Int)≤x
 | 0,at_,L,hL=>⟨fun _=>rfl,zi _,hL⟩
 | n+1,at_,L,hL=>by
  have hly:=qvz m y (n+1) at_ L
  rw [qby,qby]
  by_cases ha:at_<L.length
  ·rw [zb ha,zb ha]
   obtain ⟨h1,h2,h3,h4⟩:=jde (m:=m) (bad:=badB m) (g:=L.getD at_ Fnd.none) (a:=at_) hxy (jb m (L.getD at_ Fnd.none).s) L hL
   have e:∀ z,qag m z (badB m) at_ L=jz m z (badB m) (L.getD at_ Fnd.none) at_ (jb m (L.getD at_ Fnd.none).s) L:=fun _=>rfl
   rw [← e,← e] at h1 h2
   rw [← e] at h3 h4
   by_cases hs:(qag m x (badB m) at_ L).2.1=true
   ·rw [h1 (.inl hs),zb hs,zb hs]
    exact qwa hxy n _ _ h4
   ·rw [za hs]
    by_cases hw:(qag m x (badB m) at_ L).2.2=true
    ·rw [h1 (.inr hw),za hs]
     exact ⟨fun _=>rfl,zi _,h4⟩
    ·refine ⟨(fun h=>by rcases h with h|h <;> contradiction),?_,h4⟩
     split
     ·exact zv h2 (qvz m y n _ _)
     ·exact h2
  ·rw [za ha,za ha]
   exact ⟨fun _=>rfl,zi _,hL⟩
theorem jpy {m:Md} {x y:Int} (hx:1≤x) (hxy:x≤y) (hy:y≤20000) :
  ((qbg m x).2.1=true∨(qbg m x).2.2=true→qbg m y=qbg m x)∧(qbg m x).1.length≤(qbg m y).1.length∧((qbg m x).1.length:Int)≤x∧((qbg m y).1.length:Int)≤y:=by
 have ex:qch x=x:=by unfold qch;omega
 have ey:qch y=y:=by unfold qch;omega
 unfold qbg
 rw [ex,ey]
 by_cases hb:badB m (jj m)=true
 ·rw [zb hb,zb hb]
  exact ⟨fun _=>rfl,zi _,hx,by show ((1:Nat):Int)≤y;omega⟩
 ·rw [za hb,za hb]
  obtain ⟨h1,h2,h3⟩:=qwa (m:=m) hxy 20001 0 (qcc m) hx
  exact ⟨h1,h2,h3,(qwa (m:=m) (zw y) 20001 0 (qcc m) (by show ((1:Nat):Int)≤y;omega)).2.2⟩
theorem jdf (m:Md) (steps most:Int):∀ (n at_:Nat) (L:List Fnd),L.length≤(qdw m steps most n at_ L).1.length
 | 0,_,L=>zi _
 | n+1,at_,L=>by
  rw [qdw]
  split
  ·have h:=qrz m most (fun _=>false) (L.getD at_ Fnd.none) at_ (jb m (L.getD at_ Fnd.none).s) L
   split
   ·exact zv h (jdf m steps most n _ _)
   ·exact zi _
  ·exact zi _
theorem jdg (m:Md) (steps most:Int):∀ (n at_:Nat) (L:List Fnd),(qdw m steps most n at_ L).2=true→(qdw m (steps+1) most n at_ L).2=true→(qdw m steps most n at_ L).1.length≤(qdw m (steps+1) most n at_ L).1.length
 | 0,_,L,_,_=>zi _
 | n+1,at_,L,h1,h2=>by
  by_cases hc:at_<L.length∧(L.getD at_ Fnd.none).depth<steps
  ·have hc':at_<L.length∧(L.getD at_ Fnd.none).depth<steps+1:=⟨hc.1,by omega⟩
   rw [qdw,zb hc] at h1 ⊢
   rw [qdw,zb hc'] at h2 ⊢
   by_cases hs:(qag m most (fun _=>false) at_ L).2.1=true
   ·rw [zb hs] at h1 h2 ⊢
    rw [zb hs]
    exact jdg m steps most n _ _ h1 h2
   ·rw [za hs] at h1;cases h1
  ·rw [qdw,za hc]
   exact jdf m (steps+1) most (n+1) at_ L
end Go.Proofs.YtikahnkkfkoglaaGreatDoor
end
section
namespace Go.Proofs.YtikahnkkfkoglaaGreatDoor
open List renaming getD_eq_getElem?_getD → zd
open Go Go.Sx Go.RowKit Go.St
set_option maxRecDepth 100000
set_option maxHeartbeats 8000000
theorem qwb {m:Md} {most:Int} {bad:Stt→Bool} {g:Fnd} {a:Int}:∀ (r:List Mv) (L:List Fnd),(jz m most bad g a r L).2.1=true→(jz m most bad g a r L).2.2=false
 | [],L,_=>rfl
 | v::r,L,h=>by
  rw [jz] at h ⊢
  split at h
  ·cases h
  split at h
  ·cases h
  ·rename_i h1 h2
   rw [za h1,za h2]
   exact qwb r _ h
theorem qwc {m:Md} (hf:fitsB m (jj m)=true) {most:Int} (h:1≤most):LOk m most (qcc m):=
 ⟨zbg,h,fun f hf'=>by rw [List.mem_singleton.1 hf'];exact hf,fun i hi=>by
  obtain rfl:i=0:=by have:i<1:=hi;omega
  exact ⟨show (-1:Int)≤-1 by decide,show (-1:Int)<((0:Nat):Int) by decide⟩,fun i hi=>by
  obtain rfl:i=0:=by have:i<1:=hi;omega
  exact ⟨show (0:Int)≤0 by decide,show (0:Int)≤((0:Nat):Int) by decide⟩⟩
theorem jpz (m:Md) (hM:ModOk m) (hf:fitsB m (jj m)=true) (most:Int) (hb:(qbg m most).2.2=false) :
  Con Tryz.prog 9 [m.av,iv most] (.agg [iv (qbg m most).1.length,.bool (qbg m most).2.1,.bool false,.nils]):=by
 have hbg:=qvw m hM hf most
 have hms:=qru most
 have hL0:=qwc hf hms.1
 have hbd:badB m (jj m)=false:=by
  cases e:badB m (jj m) with
  | false=>rfl
  | true=>unfold qbg at hb;rw [zb e] at hb;cases hb
 have hbt:=qvx m hM (jj m) hf false
 rw [hbd] at hbt
 have eR:qbg m most=qby m (qch most) 20001 0 (qcc m):=by unfold qbg;rw [za (by rw [hbd];decide)]
 rw [eR] at hb ⊢
 generalize hR:qby m (qch most) 20001 0 (qcc m)=R at hb ⊢
 generalize qch most=mo at *
 unfold qod kMap kRow at hbg
 refine zK {} 300 Tryz.func9 (fun c0 rdb=>?_)
 (repeat' ((conv=>whnf);first|refine zA ?_|refine zO ?_|refine Ob.auto ?_|refine zD 300 ?_|(apply zB <;> intro hb <;> (try simp [-zd] at hb) <;> try (exfalso;omega))|refine Ob.intro ?_ ?_))
 ((conv=>whnf);refine zT 300 [] (hbg) qa ?_)
 (repeat' ((conv=>whnf);first|refine zA ?_|refine zO ?_|refine Ob.auto ?_|(refine Ob.intro (by (first|exact ⟨rfl,rfl⟩|exact ⟨⟨rfl,rfl⟩,zbg⟩|exact ⟨⟨rfl,rfl⟩,zw _,Int.zero_lt_one⟩|exact ⟨by omega,by omega⟩)) ?_)|refine zD 300 ?_|(apply zB <;> intro hb <;> (try simp [-zd] at hb) <;> try (exfalso;omega))|refine Ob.intro ?_ ?_))
 ((conv=>whnf);refine zT 300 [0,6] (hbt) qa ?_)
 (repeat' ((conv=>whnf);first|refine zA ?_|refine zO ?_|refine Ob.auto ?_|(refine Ob.intro (by (first|exact ⟨rfl,rfl⟩|exact ⟨⟨rfl,rfl⟩,zbg⟩|exact ⟨⟨rfl,rfl⟩,zw _,Int.zero_lt_one⟩|exact ⟨by omega,by omega⟩)) ?_)|refine zD 300 ?_|(apply zB <;> intro hb <;> (try simp [-zd] at hb) <;> try (exfalso;omega))|refine Ob.intro ?_ ?_))
 ((conv=>whnf);refine qo (fun _=>rfl) 300 1 (fun g:Nat × List Fnd × Bool=>[(7,.fn 21 [.ptr 0 0,.ptr 6 0]),(9,iv g.1),(8,.bool g.2.2)]) (fun g=>[(4,.box 71 (m.cells++[iv mo,.own 5 0 0 g.2.1.length,.mapv 3])),(3,.box qz [.keys (qey g.2.1)]),(5,.row [] 67 10 0 g.2.1.length (encL Fnd.cells Fnd.none g.2.1)),(6,.box 4 [.bool false])]) (fun g=>LOk m mo g.2.1∧(g.2.2=true→qby m mo (20001 - g.1) g.1 g.2.1=R∧g.1≤g.2.1.length)∧(g.2.2=false→R=(g.2.1,false,false))) (fun g=>bif g.2.2 then 20002 - g.1 else 0) ((0,qcc m,true)) (⟨hL0,fun _=>⟨hR,xb _⟩,fun h=>by cases h⟩) qa qa (fun _=>rfl) (by kernel_rfl) ?_;(conv=>whnf))
 rintro ⟨at_,L,w⟩ ⟨hL,hw1,hw0⟩
 simp only at hL hw1 hw0
 have hle:=hL.le
 have hne:=hL.ne
 cases w with
 | false=>
  have hRL:=hw0 rfl
  subst hRL
  (repeat' ((conv=>whnf);first|refine zA ?_|refine zO ?_|refine Ob.auto ?_|(refine Ob.intro (by (first|exact ⟨rfl,rfl⟩|exact ⟨by omega,by omega⟩)) ?_)|refine zD 300 ?_|(apply zB <;> intro hb <;> (try simp [-zd] at hb) <;> try (exfalso;omega))|refine Ob.intro ?_ ?_))
  exact Le.refl _
 | true=>
  obtain ⟨hex,hal⟩:=hw1 rfl
  obtain ⟨n,hn⟩:∃ n,20001 - at_=n+1:=⟨20000 - at_,by omega⟩
  rw [hn,qby] at hex
  by_cases ha:at_<L.length
  ·rw [zb ha] at hex
   have hsp:=jdd m hM mo hms.2 L hL at_ ha
   have hok:=qvo hM (bad:=badB m) hL ha
   have htr:(qag m mo (badB m) at_ L).2.1=true→(qag m mo (badB m) at_ L).2.2=false:=qwb _ _
   have hws:(qag m mo (badB m) at_ L).2.2=false:=by
    by_cases h:(qag m mo (badB m) at_ L).2.1=true
    ·exact htr h
    ·rw [za h] at hex
     rw [hex];exact hb
   generalize qag m mo (badB m) at_ L=S at hsp hok hex hws
   obtain ⟨S1,S2,S3⟩:=S
   simp only at hok hex hws
   subst hws
   (repeat' ((conv=>whnf);first|refine zA ?_|refine zO ?_|refine Ob.auto ?_|(refine Ob.intro (by (first|exact ⟨rfl,rfl⟩|exact ⟨by omega,by omega⟩)) ?_)|refine zD 300 ?_|(apply zB <;> intro hb <;> (try simp [-zd] at hb) <;> try (exfalso;omega))|refine Ob.intro ?_ ?_))
   have hn':20001 - (at_+1)=n:=by omega
   ((conv=>whnf);refine zT 300 [4,3,5,0,6] (hsp) qa ?_)
   (repeat' ((conv=>whnf);first|refine zA ?_|refine zO ?_|refine Ob.auto ?_|(refine Ob.intro (by (first|exact ⟨rfl,rfl⟩|exact ⟨by omega,by omega⟩)) ?_)|refine zD 300 ?_|(apply zB <;> intro hb <;> (try simp [-zd] at hb) <;> try (exfalso;omega))|refine Ob.intro ?_ ?_))
   cases S2 with
   | true=>
    rw [zb rfl] at hex
    ((conv=>whnf);refine ⟨(at_+1,S1,true),⟨hok.1,(fun _=>⟨by rw [hn'];exact hex,by have:=hok.2;simp only;omega⟩),(fun h=>by cases h)⟩,⟨qa,qa⟩,⟨qa,qa⟩,?_⟩;(first|omega|(dsimp only;omega)|skip))
    all_goals (simp only [cond_true];omega)
   | false=>
    rw [za (by decide)] at hex
    ((conv=>whnf);refine ⟨(at_+1,S1,false),⟨hok.1,(fun h=>by cases h),(fun _=>hex.symm)⟩,⟨qa,qa⟩,⟨qa,qa⟩,?_⟩;(first|omega|(dsimp only;omega)|skip))
    all_goals (simp only [cond_true,cond_false];omega)
  ·rw [za ha] at hex
   subst hex
   (repeat' ((conv=>whnf);first|refine zA ?_|refine zO ?_|refine Ob.auto ?_|(refine Ob.intro (by (first|exact ⟨rfl,rfl⟩|exact ⟨by omega,by omega⟩)) ?_)|refine zD 300 ?_|(apply zB <;> intro hb <;> (try simp [-zd] at hb) <;> try (exfalso;omega))|refine Ob.intro ?_ ?_))
   exact Le.refl _
end Go.Proofs.YtikahnkkfkoglaaGreatDoor
end
section
namespace Go.Proofs
open Go.Shelf
def Tryz.revMv_ren:Go.Shelf.Ren:=⟨fun|35=>51|n=>n,fun|22=>34|23=>48|3=>3|4=>4|0=>0|n=>n,fun|n=>n⟩
theorem Tryz.revMv:Go.Proofs.SlLaysE0.n35 Tryz.prog Tryz.revMv_ren:={
 mixed:=by kernel_rfl
 f35:=⟨Tryz.f51.name,by decide,Tryz.func51.trans (congrArg some (by kernel_rfl))⟩
 t0:=Tryz.underlying0
 a0:=Tryz.isAgg0
 z0:=Tryz.sizeOf0
 v0:=Tryz.zeroValue0
 t3:=Tryz.underlying3
 a3:=Tryz.isAgg3
 z3:=Tryz.sizeOf3
 v3:=Tryz.zeroValue3
 t4:=Tryz.underlying4
 a4:=Tryz.isAgg4
 z4:=Tryz.sizeOf4
 v4:=Tryz.zeroValue4
 t22:=Tryz.underlying34
 a22:=Tryz.isAgg34
 z22:=Tryz.sizeOf34
 v22:=Tryz.zeroValue34 }
end Go.Proofs
end
