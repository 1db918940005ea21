/- Some texts of the library, one behind the other. -/
import Derived.Test.YtikahnkkfkoglaaGreatDoorY220
import Derived.Test.YtikahnkkfkoglaaGreatDoorY218
import Derived.Test.YtikahnkkfkoglaaGreatDoorY22
set_option linter.unusedSimpArgs false
set_option linter.unusedVariables false
section
namespace Go.Proofs.YtikahnkkfkoglaaGreatDoor
open Go Go.Sx Go.St
def allL (m:Md) (most:Int):Nat→Nat→List Fnd→List Fnd × Bool
 | 0,_,L=>(L,true)
 | n+1,at_,L=>
  if at_<L.length then
   (if (jo m most (fun _=>false) at_ L).2.1=true then allL m most n (at_+1) (jo m most (fun _=>false) at_ L).1 else ((jo m most (fun _=>false) at_ L).1,false))
  else (L,true)
def qdl (m:Md) (L:List Fnd):Bool:=L.any fun f=>badB m f.s
def cutB (m:Md):List Fnd→List Fnd
 | []=>[]
 | f::r=>if badB m f.s=true then [f] else f::cutB m r
def qid (m:Md):List Fnd→Int
 | []=>-1
 | f::r=>if badB m f.s=true then f.depth else qid m r
theorem qmt (m:Md) (f:Fnd) (r:List Fnd):qdl m (f::r)=(badB m f.s || qdl m r):=rfl
theorem qtj (m:Md) (L x:List Fnd):qdl m (L++x)=(qdl m L || qdl m x):=List.any_append
theorem jfa {m:Md}:∀ {L:List Fnd} (x:List Fnd),qdl m L=false→cutB m (L++x)=L++cutB m x
 | [],x,_=>rfl
 | f::r,x,h=>by
  rw [qmt,xq] at h
  rw [zac,cutB,za (by rw [h.1];decide),jfa x h.2]
  rfl
theorem qxh {m:Md}:∀ {L:List Fnd} (x:List Fnd),qdl m L=true→cutB m (L++x)=cutB m L
 | [],x,h=>by cases h
 | f::r,x,h=>by
  rw [zac,cutB,cutB]
  split
  ·rfl
  ·rename_i h1
   rw [qmt,xr] at h
   rw [qxh x (h.resolve_left h1)]
theorem jfb {m:Md}:∀ {L:List Fnd},qdl m L=false→qid m L=-1
 | [],_=>rfl
 | f::r,h=>by
  rw [qmt,xq] at h
  rw [qid,za (by rw [h.1];decide),jfb h.2]
theorem jfc {m:Md}:∀ {L:List Fnd},qdl m L=true→0<(cutB m L).length∧qid m L=((cutB m L).getD ((cutB m L).length - 1) Fnd.none).depth∧badB m ((cutB m L).getD ((cutB m L).length - 1) Fnd.none).s=true
 | [],h=>by cases h
 | f::r,h=>by
  rw [cutB,qid]
  by_cases h1:badB m f.s=true
  ·rw [zb h1,zb h1]
   exact ⟨zbd,rfl,h1⟩
  ·rw [za h1,za h1]
   rw [qmt,xr] at h
   obtain ⟨h2,h3,h4⟩:=jfc (h.resolve_left h1)
   have e:(f::cutB m r).length - 1=((cutB m r).length - 1)+1:=by rw [xg];omega
   rw [e]
   exact ⟨by rw [xg];omega,h3,h4⟩
theorem qxi (m:Md) (most:Int) (bad:Stt→Bool) (g:Fnd) (a:Int):∀ (r:List Mv) (L:List Fnd),∃ x,(qbk m most bad g a r L).1=L++x
 | [],L=>⟨[],(xl L).symm⟩
 | v::r,L=>by
  rw [qbk]
  split
  ·exact ⟨[],(xl L).symm⟩
  have hA:∃ x,(addF most L ⟨jg m g.s v,a,v,g.depth+1⟩).1=L++x:=by
   rcases qml most L ⟨jg m g.s v,a,v,g.depth+1⟩ with e|⟨e,_⟩
   ·exact ⟨[],by rw [e,xl]⟩
   ·exact ⟨_,e⟩
  split
  ·exact hA
  ·obtain ⟨x,hx⟩:=hA
   obtain ⟨y,hy⟩:=qxi m most bad g a r (addF most L ⟨jg m g.s v,a,v,g.depth+1⟩).1
   exact ⟨x++y,by rw [hy,hx,zn]⟩
def cutR (m:Md) (L:List Fnd):List Fnd × (Bool × Bool):=if qdl m L=true then (cutB m L,false,true) else (L,true,false)
theorem qxj {m:Md} {most:Int} {g:Fnd} {a:Int}:∀ (r:List Mv) (L:List Fnd),qdl m L=false→(qbk m most (fun _=>false) g a r L).2.1=true→
  qbk m most (badB m) g a r L=cutR m (qbk m most (fun _=>false) g a r L).1
 | [],L,hL,_=>by
  show (L,true,false)=cutR m L
  unfold cutR
  rw [za (by rw [hL];decide)]
 | v::r,L,hL,h=>by
  have hx:=qxi m most (fun _=>false) g a r (addF most L ⟨jg m g.s v,a,v,g.depth+1⟩).1
  rw [qbk] at h ⊢
  rw [qbk]
  by_cases h1:(addF most L ⟨jg m g.s v,a,v,g.depth+1⟩).2=false
  ·rw [zb h1] at h;cases h
  rw [za h1,za (fun h=>by cases h.2)] at h
  rw [za h1,za h1,za (c:=_∧false=true) (fun h=>by cases h.2)]
  rcases qml most L ⟨jg m g.s v,a,v,g.depth+1⟩ with e|⟨e,_,_⟩
  ·rw [e] at h ⊢
   rw [za (fun h=>zbm _ h.1)]
   exact qxj r L hL h
  ·rw [e] at h hx ⊢
   by_cases hb:badB m (jg m g.s v)=true
   ·rw [zb ⟨by simp,hb⟩]
    obtain ⟨x,hx⟩:=hx
    rw [hx,zn]
    unfold cutR
    have h2:qdl m ([(⟨jg m g.s v,a,v,g.depth+1⟩:Fnd)]++x)=true:=by
     rw [List.singleton_append,qmt,xr];exact .inl hb
    rw [zb (by rw [qtj,h2,Bool.or_true]),jfa _ hL,List.singleton_append,cutB,zb hb]
   ·rw [za (fun h=>hb h.2)]
    refine qxj r _ ?_ h
    rw [qtj,hL,qmt,Bool.eq_false_iff.2 hb]
    rfl
theorem qxk (m:Md) (most:Int):∀ (n at_:Nat) (L:List Fnd),∃ x,(allL m most n at_ L).1=L++x
 | 0,_,L=>⟨[],(xl L).symm⟩
 | n+1,at_,L=>by
  rw [allL]
  split
  ·obtain ⟨x,hx⟩:=qxi m most (fun _=>false) (L.getD at_ Fnd.none) at_ (qp m (L.getD at_ Fnd.none).s) L
   have hx':(jo m most (fun _=>false) at_ L).1=L++x:=hx
   split
   ·obtain ⟨y,hy⟩:=qxk m most n (at_+1) (jo m most (fun _=>false) at_ L).1
    exact ⟨x++y,by rw [hy,hx',zn]⟩
   ·exact ⟨x,hx'⟩
  ·exact ⟨[],(xl L).symm⟩
theorem jfd {m:Md} {most:Int}:∀ (n at_:Nat) (L:List Fnd),qdl m L=false→(allL m most n at_ L).2=true→qdr m most n at_ L=cutR m (allL m most n at_ L).1
 | 0,_,L,hL,_=>by
  show (L,true,false)=cutR m L
  unfold cutR
  rw [za (by rw [hL];decide)]
 | n+1,at_,L,hL,h=>by
  rw [allL] at h
  rw [qdr,allL]
  by_cases ha:at_<L.length
  ·rw [zb ha] at h
   rw [zb ha,zb ha]
   by_cases hs:(jo m most (fun _=>false) at_ L).2.1=true
   ·rw [zb hs] at h
    rw [zb hs]
    have hc:jo m most (badB m) at_ L=cutR m (jo m most (fun _=>false) at_ L).1:=qxj (qp m (L.getD at_ Fnd.none).s) L hL hs
    rw [hc]
    by_cases hb:qdl m (jo m most (fun _=>false) at_ L).1=true
    ·obtain ⟨x,hx⟩:=qxk m most n (at_+1) (jo m most (fun _=>false) at_ L).1
     rw [hx]
     unfold cutR
     rw [zb hb,za (fun h=>by cases h),zb (by rw [qtj,hb];rfl),qxh _ hb]
    ·have e:cutR m (jo m most (fun _=>false) at_ L).1=((jo m most (fun _=>false) at_ L).1,true,false):=za hb
     rw [e,zb rfl]
     exact jfd n (at_+1) _ (Bool.eq_false_iff.2 hb) h
   ·rw [za hs] at h;cases h
  ·rw [za ha,za ha]
   show (L,true,false)=cutR m L
   unfold cutR
   rw [za (by rw [hL];decide)]
theorem jst {m:Md} {most:Int} (h:(allL m (qds most) 20001 0 (qae m)).2=true):qbv m most=cutR m (allL m (qds most) 20001 0 (qae m)).1:=by
 unfold qbv
 by_cases hb:badB m (qw m)=true
 ·rw [zb hb]
  obtain ⟨x,hx⟩:=qxk m (qds most) 20001 0 (qae m)
  have h1:qdl m (qae m)=true:=by
   show (badB m (qw m) || false)=true
   rw [hb];rfl
  rw [hx]
  unfold cutR
  rw [zb (by rw [qtj,h1];rfl),qxh _ h1]
  show _=((if badB m (qw m)=true then _ else _),false,true)
  rw [zb hb]
  rfl
 ·rw [za hb]
  exact jfd 20001 0 (qae m) (by show (badB m (qw m) || false)=false;rw [Bool.eq_false_iff.2 hb];rfl) h
def RunOk (m:Md) (L:List Fnd):Prop:=∀ i,i<L.length→((L.getD i Fnd.none).frm=-1∧(L.getD i Fnd.none).depth=0∧(L.getD i Fnd.none).s=qw m) ∨
 ∃ j:Nat,j<i∧(L.getD i Fnd.none).frm=j∧(L.getD i Fnd.none).mv∈qp m (L.getD j Fnd.none).s∧(L.getD i Fnd.none).s=jg m (L.getD j Fnd.none).s (L.getD i Fnd.none).mv∧(L.getD i Fnd.none).depth=(L.getD j Fnd.none).depth+1
theorem RunOk.snoc {m:Md} {L:List Fnd} (h:RunOk m L) {v:Mv} {a:Nat} (ha:a<L.length) (hv:v∈qp m (L.getD a Fnd.none).s):RunOk m (L++[⟨jg m (L.getD a Fnd.none).s v,a,v,(L.getD a Fnd.none).depth+1⟩]):=by
 intro i hi
 rw [zg,zz] at hi
 rw [qjj hi]
 by_cases hil:i<L.length
 ·rw [zb hil]
  rcases h i hil with h1|⟨j,hj,h1⟩
  ·exact .inl h1
  ·refine .inr ⟨j,hj,?_⟩
   rw [qjj (by omega),zb (by omega)]
   exact h1
 ·rw [za hil]
  refine .inr ⟨a,by omega,rfl,?_⟩
  rw [qjj (by omega),zb ha]
  exact ⟨hv,rfl,rfl⟩
theorem jfe {m:Md} {most:Int} {bad:Stt→Bool} {a:Nat} {g:Fnd}:∀ (r:List Mv) (L:List Fnd),RunOk m L→a<L.length→L.getD a Fnd.none=g→(∀ v∈r,v∈qp m g.s)→RunOk m (qbk m most bad g a r L).1
 | [],L,h,_,_,_=>h
 | v::r,L,h,ha,hg,hr=>by
  rw [qbk]
  split
  ·exact h
  have hA:RunOk m (addF most L ⟨jg m g.s v,a,v,g.depth+1⟩).1∧a<(addF most L ⟨jg m g.s v,a,v,g.depth+1⟩).1.length∧(addF most L ⟨jg m g.s v,a,v,g.depth+1⟩).1.getD a Fnd.none=g:=by
   rcases qml most L ⟨jg m g.s v,a,v,g.depth+1⟩ with e|⟨e,_⟩
   ·rw [e];exact ⟨h,ha,hg⟩
   ·rw [e]
    refine ⟨?_,by rw [zg];omega,by rw [qjj (by omega),zb ha];exact hg⟩
    have:=h.snoc ha (v:=v) (by rw [hg];exact hr v (zp ..))
    rw [hg] at this
    exact this
  split
  ·exact hA.1
  ·exact jfe r _ hA.1 hA.2.1 hA.2.2 (fun v hv=>hr v (zq _ hv))
theorem jff {m:Md} {most:Int}:∀ (n at_:Nat) (L:List Fnd),RunOk m L→RunOk m (qdr m most n at_ L).1
 | 0,_,L,h=>h
 | n+1,at_,L,h=>by
  rw [qdr]
  split
  ·rename_i ha
   have h1:RunOk m (jo m most (badB m) at_ L).1:=jfe (qp m (L.getD at_ Fnd.none).s) L h ha rfl (fun _ h=>h)
   split
   ·exact jff n _ _ h1
   ·exact h1
  ·exact h
theorem jfg (m:Md):RunOk m (qae m):=fun i hi=>by
 obtain rfl:i=0:=by have:i<1:=hi;omega
 exact .inl ⟨rfl,rfl,rfl⟩
theorem jsu (m:Md) (most:Int):RunOk m (qbv m most).1:=by
 unfold qbv
 split
 ·exact jfg m
 ·exact jff _ _ _ (jfg m)
theorem jfh {m:Md} (hM:ModOk m) {most:Int}:∀ (n at_:Nat) (L:List Fnd),LOk m most L→LOk m most (qdr m most n at_ L).1
 | 0,_,L,h=>h
 | n+1,at_,L,h=>by
  rw [qdr]
  split
  ·rename_i ha
   have h1:=(qpm hM (bad:=badB m) h ha).1
   split
   ·exact jfh hM n _ _ h1
   ·exact h1
  ·exact h
theorem jsv {m:Md} (hM:ModOk m) (hf:fitsB m (qw m)=true) (most:Int):LOk m (qds most) (qbv m most).1:=by
 have h0:=qmr hf (qpl most).1
 unfold qbv
 split
 ·exact h0
 ·exact jfh hM _ _ _ h0
theorem jfi {m:Md} {most:Int} {L:List Fnd} (hL:LOk m most L) (hR:RunOk m L):∀ (n i:Nat),i<n→i<L.length→
  (((qbg L i).length:Int)=(L.getD i Fnd.none).depth)∧(qbg L i).reverse.foldl (jg m) (qw m)=(L.getD i Fnd.none).s ∧
  ∀ j,j<(qbg L i).reverse.length→(qbg L i).reverse.getD j {}∈qp m (((qbg L i).reverse.take j).foldl (jg m) (qw m))
 | 0,i,h,_=>absurd h (zh _)
 | n+1,i,hn,hi=>by
  rcases hR i hi with ⟨h1,h2,h3⟩|⟨k,hk,h1,h2,h3,h4⟩
  ·rw [jez (by omega),h2,h3]
   exact ⟨rfl,rfl,fun j hj=>absurd hj (zh j)⟩
  ·have e:=jey hL hi (by omega)
   rw [h1,zr] at e
   rw [e]
   obtain ⟨p1,p2,p3⟩:=jfi hL hR n k (by omega) (by omega)
   refine ⟨by rw [xg,h4,← p1];rfl,?_,fun j hj=>?_⟩
   ·rw [List.reverse_cons,xx,p2]
    exact h3.symm
   ·rw [List.reverse_cons] at hj ⊢
    rw [zg,zz] at hj
    rw [qjj hj]
    by_cases hj':j<(qbg L k).reverse.length
    ·rw [zb hj',List.take_append_of_le_length (Nat.le_of_lt hj')]
     exact p3 j hj'
    ·have hj2:j=(qbg L k).reverse.length:=by omega
     rw [za hj',List.take_append_of_le_length (by omega),zbi (by omega),p2]
     exact h2
end Go.Proofs.YtikahnkkfkoglaaGreatDoor
end
section
namespace Go.Proofs.YtikahnkkfkoglaaGreatDoor
open List renaming getD_eq_getElem?_getD → zd
open Go Go.Sx Go.RowKit Go.St
set_option maxRecDepth 100000
set_option maxHeartbeats 8000000
theorem jsw (m:Md) (hM:ModOk m) (hf:fitsB m (qw m)=true) (most:Int) (hm:1≤most∧most≤20000) (R:List Fnd × Bool) (hR:allL m most 20001 0 (qae m)=R) :
  Trip Tryz.prog 19 [m.av,iv 1000000,iv most] [] (.tup [.ptr 11 0,.bool R.2]) [(11,qmn 5 6 8 9 m R.1 (!R.2)),(5,sSt R.1),(6,sFr R.1),(8,sBy R.1),(9,sFa R.1)] 12:=by
 have hbg:=jeb m hM
 have hL0:=qmr hf hm.1
 unfold qmn sSt sFr sBy sFa at hbg ⊢
 refine zL {} 300 Tryz.func19 (fun c0 rdb mpb=>?_)
 (repeat' ((conv=>whnf);first|refine zA ?_|refine zO ?_|refine Ob.auto ?_|refine zI ?_|refine zD 300 ?_|(apply zB <;> intro hb <;> (try simp [-zd] at hb) <;> try (exfalso;omega))|refine Ob.intro ?_ ?_))
 ((conv=>whnf);refine zT 300 [] (hbg) qa ?_)
 (repeat' ((conv=>whnf);first|refine zA ?_|refine zO ?_|refine Ob.auto ?_|(refine Ob.intro (by (first|exact ⟨rfl,rfl⟩|exact ⟨by omega,by omega⟩)) ?_)|refine zD 300 ?_|(apply zB <;> intro hb <;> (try simp [-zd] at hb) <;> try (exfalso;omega))|refine Ob.intro ?_ ?_))
 ((conv=>whnf);refine qm (fun _=>rfl) 300 1 (fun g:Nat × List Fnd=>[(9,iv g.1),(6,.nilp),(7,.bool false)]) (fun g=>[(11,.box 43 (m.cells++[.own 5 0 0 g.2.length,.own 6 0 0 g.2.length,.own 8 0 0 g.2.length,.own 9 0 0 g.2.length,.bool false])),(5,.row [] 40 4 0 g.2.length (encL (fun f:Fnd=>f.s.cells) Fnd.none g.2)),(6,.row [] 3 1 0 g.2.length (encL (fun f:Fnd=>[iv f.frm]) Fnd.none g.2)),(8,.row [] 48 4 0 g.2.length (encL (fun f:Fnd=>f.mv.cells) Fnd.none g.2)),(9,.row [] 3 1 0 g.2.length (encL (fun f:Fnd=>[iv f.depth]) Fnd.none g.2))]) (fun g=>LOk m most g.2∧allL m most (20001 - g.1) g.1 g.2=R∧g.1≤g.2.length) (fun g=>20002 - g.1) ((0,qae m)) (⟨hL0,hR,zv _⟩) qa qa (fun _=>rfl) (by kernel_rfl) ?_;(conv=>whnf))
 clear hbg hR
 rintro ⟨at_,L⟩ ⟨hL,hex,hal⟩
 simp only at hL hex hal
 have hle:=hL.le
 have hne:=hL.ne
 obtain ⟨n,hn⟩:∃ n,20001 - at_=n+1:=⟨20000 - at_,by omega⟩
 rw [hn,allL] at hex
 have hn':20001 - (at_+1)=n:=by omega
 by_cases ha:at_<L.length
 ·rw [zb ha] at hex
  have hd:=hL.dep at_ ha
  have hnx:=jse m hM most hm.2 L hL at_ ha
  have hok:=qpm hM (bad:=fun _=>false) hL ha
  unfold sBox sSt sFr sBy sFa at hnx
  generalize jo m most (fun _=>false) at_ L=S at hnx hok hex
  obtain ⟨S1,S2,S3⟩:=S
  simp only at hok hex
  (repeat' ((conv=>whnf);first|refine zA ?_|refine zO ?_|refine Ob.auto ?_|(refine Ob.intro (by (first|exact ⟨rfl,rfl⟩|exact ⟨by omega,by omega⟩)) ?_)|refine zD 300 ?_|(apply zB <;> intro hb <;> (try simp [-zd] at hb) <;> try (exfalso;omega))|refine Ob.intro ?_ ?_))
  (conv=>whnf)
  refine qxe (fun _=>rfl) 300 (.bool false) (by kernel_rfl) qz (fun he=>?_) (fun he=>?_)
  ·((conv=>whnf);refine zT 300 [11,5,6,8,9] (hnx) qa ?_)
   (repeat' ((conv=>whnf);first|refine zA ?_|refine zO ?_|refine Ob.auto ?_|(refine Ob.intro (by (first|exact ⟨rfl,rfl⟩|exact ⟨by omega,by omega⟩)) ?_)|refine zD 300 ?_|(apply zB <;> intro hb <;> (try simp [-zd] at hb) <;> try (exfalso;omega))|refine Ob.intro ?_ ?_))
   ·have h2:S2=false:=by
     have h:=hb
     exact h.2
    subst h2
    rw [za (by decide)] at hex
    subst hex
    exact ⟨Le.refl _,qa⟩
   ·have h2:S2=true:=hb (by omega)
    subst h2
    rw [zb rfl] at hex
    ((conv=>whnf);refine ⟨(at_+1,S1),⟨hok.1,by rw [hn'];exact hex,by have:=hok.2;simp only;omega⟩,⟨qa,qa⟩,⟨qa,qa⟩,?_⟩;(first|omega|(dsimp only;omega)|skip))
  ·exfalso
   have h:=of_decide_eq_false he
   have h2:(L.getD at_ Fnd.none).depth<1000000:=by omega
   exact h h2
 ·rw [za ha] at hex
  subst hex
  (repeat' ((conv=>whnf);first|refine zA ?_|refine zO ?_|refine Ob.auto ?_|(refine Ob.intro (by (first|exact ⟨rfl,rfl⟩|exact ⟨by omega,by omega⟩)) ?_)|refine zD 300 ?_|(apply zB <;> intro hb <;> (try simp [-zd] at hb) <;> try (exfalso;omega))|refine Ob.intro ?_ ?_))
  exact ⟨Le.refl _,qa⟩
theorem qxl {m:Md} (hM:ModOk m) {most:Int}:∀ (n at_:Nat) (L:List Fnd),LOk m most L→LOk m most (allL m most n at_ L).1
 | 0,_,L,h=>h
 | n+1,at_,L,h=>by
  rw [allL]
  split
  ·rename_i ha
   have h1:=(qpm hM (bad:=fun _=>false) h ha).1
   split
   ·exact qxl hM n _ _ h1
   ·exact h1
  ·exact h
theorem jsx (m:Md) (hM:ModOk m) (hf:fitsB m (qw m)=true) (most:Int) (hm:1≤most∧most≤20000) :
  Con Tryz.prog 8 [m.av,iv most] (.tup [iv (if (allL m most 20001 0 (qae m)).2=true then qid m (allL m most 20001 0 (qae m)).1 else 0),.bool (allL m most 20001 0 (qae m)).2]):=by
 have hnr:=jsw m hM hf most hm _ rfl
 have hL:=qxl hM 20001 0 _ (qmr hf hm.1)
 generalize allL m most 20001 0 (qae m)=R at hnr hL ⊢
 obtain ⟨L,ok⟩:=R
 simp only at hL ⊢
 have hle:=hL.le
 unfold qmn sSt sFr sBy sFa at hnr
 refine zK {} 300 Tryz.func8 (fun c0 rdb=>?_)
 (repeat' ((conv=>whnf);first|refine zA ?_|refine zO ?_|refine Ob.auto ?_|refine zI ?_|refine zD 300 ?_|(apply zB <;> intro hb <;> (try simp [-zd] at hb) <;> try (exfalso;omega))|refine Ob.intro ?_ ?_))
 ((conv=>whnf);refine zT 300 [] (hnr) qa ?_)
 (repeat' ((conv=>whnf);first|refine zA ?_|refine zO ?_|refine Ob.auto ?_|(refine Ob.intro (by (first|exact ⟨rfl,rfl⟩|exact ⟨by omega,by omega⟩)) ?_)|refine zD 300 ?_|(apply zB <;> intro hb <;> (try simp [-zd] at hb) <;> try (exfalso;omega))|refine Ob.intro ?_ ?_))
 ·have hb':ok=false:=by assumption
  exact Le.of_eq (by rw [hb'];rfl)
 ·have hb':ok=true:=by assumption
  subst hb'
  rw [zb rfl]
  ((conv=>whnf);refine qm (fun _=>rfl) 300 1 (fun i:Nat=>[(8,iv i),(4,iv 0),(5,.bool false)]) (fun _=>[]) (fun i=>i≤L.length∧qid m (L.drop i)=qid m L) (fun i=>L.length - i) (0) (⟨zv _,rfl⟩) qa qa (fun _=>rfl) (by kernel_rfl) ?_;(conv=>whnf))
  clear hnr
  rintro i ⟨hi,hls⟩
  by_cases hil:i<L.length
  ·have hfi:=hL.fit _ (qk L i Fnd.none hil)
   have hbd:=jei m hM (L.getD i Fnd.none).s hfi
   rw [qgz L i Fnd.none hil,qid] at hls
   (repeat' ((conv=>whnf);first|refine zA ?_|refine zO ?_|refine Ob.auto ?_|(refine Ob.intro (by (first|exact ⟨rfl,rfl⟩|exact ⟨by omega,by omega⟩)) ?_)|refine zD 300 ?_|(apply zB <;> intro hb <;> (try simp [-zd] at hb) <;> try (exfalso;omega))|refine Ob.intro ?_ ?_))
   (repeat' ((conv=>whnf);first|refine zA ?_|refine zO ?_|refine Ob.auto ?_|(refine Ob.intro (by (first|exact ⟨rfl,rfl⟩|exact ⟨by omega,by omega⟩)) ?_)|refine zC 300 (hbd) ?_|refine zG 300 (fun hg=>hbd) ?_|(refine CallY.con (hbd) (by rfl) leA ?_)|(refine CallZ.con (fun hg=>hbd) qz (by rfl) ?_)|(refine qi (fun _=>rfl) 300 (hbd) qc (by (repeat' (first|exact trivial|exact Le.refl _|(refine And.intro ?_ ?_))) <;> fail) (by rfl) (by kernel_rfl) ?_)|(refine qq (fun _=>rfl) 300 (fun hg=>hbd) (fun hg=>qc) (fun hg=>(by (repeat' (first|exact trivial|exact Le.refl _|exact Le.cnd hg|(refine And.intro ?_ ?_))) <;> fail)) (by rfl) (by kernel_rfl) ?_)|refine zD 300 ?_|(refine zQ 300 ?_)|(apply zB <;> intro hb <;> (try simp [-zd] at hb) <;> try (exfalso;omega))|refine Ob.intro ?_ ?_))
   ·have hb':badB m (L.getD i Fnd.none).s=true:=by assumption
    rw [zb hb'] at hls
    exact Le.of_eq (congrArg (fun x=>AV.tup [iv x,.bool true]) hls)
   ·have hb':badB m (L.getD i Fnd.none).s=false:=by assumption
    rw [za (by rw [hb'];decide)] at hls
    ((conv=>whnf);refine ⟨i+1,⟨hil,hls⟩,⟨qa,qa⟩,⟨qa,qa⟩,?_⟩;(first|omega|(dsimp only;omega)|skip))
  ·rw [List.drop_of_length_le (by omega)] at hls
   rw [← hls]
   (repeat' ((conv=>whnf);first|refine zA ?_|refine zO ?_|refine Ob.auto ?_|(refine Ob.intro (by (first|exact ⟨rfl,rfl⟩|exact ⟨by omega,by omega⟩)) ?_)|refine zD 300 ?_|(apply zB <;> intro hb <;> (try simp [-zd] at hb) <;> try (exfalso;omega))|refine Ob.intro ?_ ?_))
   exact Le.refl _
end Go.Proofs.YtikahnkkfkoglaaGreatDoor
end
