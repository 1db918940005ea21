/- The checker's parts fit together: what holds while the clauses that watch a literal are looked at. Plain. -/
import Derived.Test.YtkhdldncbmkidaaY35
import Derived.Test.YtkhdldncbmkidaaY32
set_option linter.unusedSimpArgs false
set_option linter.unusedVariables false
namespace Go.Ru
open List renaming getD_eq_getElem?_getD → zd
theorem jc {α:Type} (l:List α) (i:Nat) (x d:α) (j:Nat):(l.set i x).getD j d=if j=i∧i<l.length then x else l.getD j d:=by
 rw [zd,zd,zbb]
 by_cases h:i=j
 ·subst h
  by_cases hl:i<l.length
  ·simp [hl]
  ·simp [hl]
 ·rw [ze h,ze (fun h'=>h h'.1.symm)]
theorem qj {α:Type} {l:List α} {i:Nat} {d:α} (h:i<l.length):l.getD i d∈l:=by
 rw [zd,zb h]
 exact zau h
theorem qdm {α:Type} {l:List α} {i:Nat} {d:α} (h:l.length≤i):l.getD i d=d:=by
 rw [zd,zy h];rfl
theorem qal {α:Type} {l:List α} {x:α} (d:α) (h:x∈l):∃ i,i<l.length∧l.getD i d=x:=by
 obtain ⟨i,hi,rfl⟩:=List.mem_iff_getElem.1 h
 exact ⟨i,hi,by rw [zd,zb hi];rfl⟩
theorem qgc {n:Nat}:∀ {l:List Nat},l.Nodup→(∀ x∈l,x<n)→l.length≤n:=by
 intro l hn hl
 have h1:l ⊆ List.range n:=fun x hx=>List.mem_range.2 (hl x hx)
 have:=hn.length_le_of_subset h1
 simpa using this
theorem qmf {l:List Nat} (h:l.Nodup) {i j:Nat} (hi:i<l.length) (hj:j<l.length) (e:l.getD i 0=l.getD j 0):i=j:=by
 rw [zd,zd,zb hi,zb hj] at e
 exact (List.getElem_inj h).1 e
theorem qmg {l:List Nat} {i j:Nat} (hi:i<l.length) (hj:j<l.length):(swap l i j).Perm l:=by
 unfold swap
 rw [zd,zd,zb hi,zb hj]
 exact List.set_set_perm hi hj
theorem qhi {l:List Nat} {i j:Nat} (hi:i<l.length) (hj:j<l.length) (q:Nat):(swap l i j).getD q 0=if q=j then l.getD i 0 else if q=i then l.getD j 0 else l.getD q 0:=by
 unfold swap
 rw [jc,jc]
 by_cases h1:q=j
 ·rw [za ⟨h1,by simpa using hj⟩,za h1]
 ·rw [ze (fun h=>h1 h.1),ze h1]
  by_cases h2:q=i
  ·rw [za ⟨h2,hi⟩,za h2]
  ·rw [ze (fun h=>h2 h.1),ze h2]
structure VInv (k:K):Prop where
 vr:k.val.length=2 * k.rea.length
 anti:∀ x,x<k.val.length→vl k (ng x)=-vl k x
 tri:∀ x,vl k x=0∨vl k x=1∨vl k x=-1
 tv:∀ x,x∈k.trail↔x<k.val.length∧vl k x=1
 nd:k.trail.Nodup
theorem VInv.len {k:K} (h:VInv k):k.trail.length≤k.val.length:=qgc h.nd fun x hx=>((h.tv x).1 hx).1
theorem qwc (k:K) (y:Nat) (r:Int) (hy:y<k.val.length) (hn:ng y<k.val.length) (x:Nat):vl (k.set y r) x=if x=ng y then -1 else if x=y then 1 else vl k x:=by
 unfold vl K.set
 simp only
 rw [jc,jc]
 by_cases h1:x=ng y
 ·rw [za ⟨h1,by simpa using hn⟩,za h1]
 ·rw [ze (fun h=>h1 h.1),ze h1]
  by_cases h2:x=y
  ·rw [za ⟨h2,hy⟩,za h2]
  ·rw [ze (fun h=>h2 h.1),ze h2]
theorem VInv.ngl {k:K} (h:VInv k) {x:Nat} (hx:x<k.val.length):ng x<k.val.length:=by
 have:=h.vr
 rw [this] at hx ⊢
 exact qlz hx
theorem VInv.set {k:K} (h:VInv k) {y:Nat} {r:Int} (hy:y<k.val.length) (h0:vl k y=0):VInv (k.set y r):=by
 have hn:=h.ngl hy
 have hv:=qwc k y r hy hn
 have hny:ng y≠y:=qja y
 have hlen:(k.set y r).val.length=k.val.length:=by simp [K.set]
 refine ⟨by simp [K.set];exact h.vr,fun x hx=>?_,fun x=>?_,fun x=>?_,?_⟩
 ·rw [hlen] at hx
  rw [hv,hv]
  by_cases h1:x=y
  ·subst h1
   rw [za rfl,ze hny.symm,za rfl]
  ·by_cases h2:x=ng y
   ·subst h2
    rw [qeb,ze hny.symm,za rfl,za rfl];rfl
   ·rw [ze (fun e=>h1 (by rw [← qeb x,e,qeb])),ze (fun e=>h2 (by rw [← e,qeb])),ze h2,ze h1]
    exact h.anti x hx
 ·rw [hv]
  split
  ·exact .inr (.inr rfl)
  ·split
   ·exact .inr (.inl rfl)
   ·exact h.tri x
 ·rw [hv,hlen]
  show x∈k.trail++[y]↔_
  rw [xt,zk,h.tv]
  by_cases h2:x=ng y
  ·rw [za h2]
   constructor
   ·rintro (⟨h3,h4⟩|h3)
    ·have:=h.anti y hy
     rw [← h2,h0] at this
     omega
    ·exact absurd (h2.symm.trans h3) hny
   ·rintro ⟨_,h3⟩;omega
  ·rw [ze h2]
   by_cases h1:x=y
   ·rw [za h1]
    exact ⟨fun _=>⟨h1 ▸ hy,rfl⟩,fun _=>.inr h1⟩
   ·rw [ze h1]
    exact ⟨fun h3=>h3.resolve_right h1,.inl⟩
 ·show (k.trail++[y]).Nodup
  rw [zap]
  refine ⟨h.nd,by simp,fun a ha b hb e=>?_⟩
  rw [zk] at hb
  subst hb e
  have:=((h.tv _).1 ha).2
  omega
structure Wat (k:K) (n y:Nat):Prop where
 b:n<k.lits.length
 l:2≤(lit k n).length
 w:(lit k n).getD 0 0=y∨(lit k n).getD 1 0=y
structure CInv (k:K):Prop where
 c:∀ n,∀ x∈lit k n,x<k.val.length
 d:∀ n,(lit k n).Nodup
 m:∀ n,(lit k n).length≤100000
 n:k.lits.length≤100000
 v:k.val.length≤1000000
 w:k.watch.length=k.val.length
 g:k.gone.length=k.lits.length
theorem jgv {k:K} {n:Nat} (h:k.lits.length≤n):lit k n=[]:=qdm h
theorem CInv.perm {k:K} (h:CInv k) {n:Nat} {c:List Nat} (hp:c.Perm (lit k n)):CInv { k with lits:=k.lits.set n c }:=by
 have key:∀ m,(lit { k with lits:=k.lits.set n c } m).Perm (lit k m):=by
  intro m
  unfold lit
  simp only
  rw [jc]
  split
  ·rename_i hm;rw [hm.1];exact hp
  ·exact .refl _
 refine ⟨fun m x hx=>h.c m x ((key m).mem_iff.1 hx),fun m=>(key m).nodup_iff.2 (h.d m),fun m=>by rw [(key m).length_eq];exact h.m m,by simpa using h.n,h.v,h.w,by simpa using h.g⟩
theorem qfa {k:K} {n:Nat} {c:List Nat} (hn:n<k.lits.length) (m:Nat):lit { k with lits:=k.lits.set n c } m=if m=n then c else lit k m:=by
 unfold lit
 simp only
 rw [jc]
 by_cases h:m=n
 ·rw [za ⟨h,hn⟩,za h]
 ·rw [ze (fun h'=>h h'.1),ze h]
theorem qmh {c:List Nat} (x:Nat) (h:2≤c.length):(turnL c x).Perm c:=by
 unfold turnL
 split
 ·exact qmg (by omega) (by omega)
 ·exact .refl _
theorem qwd {c:List Nat} {x:Nat} (h:2≤c.length) (hd:c.Nodup) (hw:c.getD 0 0=x∨c.getD 1 0=x) :
  (turnL c x).getD 1 0=x∧(turnL c x).getD 0 0≠x∧(∀ y,((turnL c x).getD 0 0=y∨(turnL c x).getD 1 0=y)↔(c.getD 0 0=y∨c.getD 1 0=y))∧∀ i,2≤i→(turnL c x).getD i 0=c.getD i 0:=by
 have hne:c.getD 0 0≠c.getD 1 0:=fun e=>by
  have:=qmf hd (by omega) (by omega) e
  omega
 unfold turnL
 by_cases h0:c.getD 0 0=x
 ·rw [za h0]
  have e:=qhi (l:=c) (i:=0) (j:=1) (by omega) (by omega)
  refine ⟨by rw [e,za rfl,h0],by rw [e,ze (by omega),za rfl];exact fun h1=>hne (h0.trans h1.symm),fun y=>?_,fun i hi=>by rw [e,ze (by omega),ze (by omega)]⟩
  rw [e,e,za rfl,ze (by omega),za rfl]
  exact Or.comm
 ·rw [ze h0]
  exact ⟨hw.resolve_left h0,h0,fun _=>Iff.rfl,fun _ _=>rfl⟩
structure VisI (x:Nat) (list:List Nat) (k:K) (kept:List Nat) (i:Nat):Prop where
 v:VInv k
 c:CInv k
 xf:vl k x=-1
 xl:x<k.val.length
 wx:k.watch.getD x []=list
 ln:list.Nodup
 ww:∀ y,y≠x→∀ n∈k.watch.getD y [],Wat k n y
 wn:∀ y,(k.watch.getD y []).Nodup
 wr:∀ n∈list.drop i,Wat k n x
 wk:∀ n∈kept,Wat k n x
 ks:kept.Sublist (list.take i)
theorem qgd {l:List Nat} {i:Nat} (h:i<l.length):l.drop i=l.getD i 0::l.drop (i+1):=by
 rw [List.drop_eq_getElem_cons h,zd,zb h];rfl
theorem qge {l:List Nat} {i:Nat} (h:i<l.length):l.take (i+1)=l.take i++[l.getD i 0]:=by
 rw [zal,zd,zb h];rfl
theorem jgw {l:List Nat} (hn:l.Nodup) {i:Nat} (h:i<l.length):l.getD i 0 ∉ l.drop (i+1):=by
 have h1:(l.drop i).Nodup:=hn.sublist (List.drop_sublist _ _)
 rw [qgd h] at h1
 exact (List.nodup_cons.1 h1).1
theorem qwe {l:List Nat} (hn:l.Nodup) {i:Nat} (h:i<l.length):l.getD i 0 ∉ l.take i:=by
 have h1:(l.take (i+1)).Nodup:=hn.sublist (List.take_sublist _ _)
 rw [qge h,zap] at h1
 intro h2
 exact h1.2.2 _ h2 _ (List.mem_singleton_self _) rfl
variable {x:Nat} {list:List Nat} {k:K} {kept:List Nat} {i:Nat}
theorem VisI.skip (h:VisI x list k kept i) (hi:i<list.length):VisI x list k kept (i+1):=
 { h with
  wr:=fun n hn=>h.wr n (by rw [qgd hi];exact xg _ hn)
  ks:=h.ks.trans (by rw [qge hi];exact List.sublist_append_left _ _) }
theorem VisI.at_ (h:VisI x list k kept i) (hi:i<list.length):Wat k (list.getD i 0) x:=h.wr _ (by rw [qgd hi];exact xm ..)
theorem VisI.keep (h:VisI x list k kept i) (hi:i<list.length):VisI x list k (kept++[list.getD i 0]) (i+1):=
 { h.skip hi with
  wk:=fun n hn=>by
   rcases List.mem_append.1 hn with hn|hn
   ·exact h.wk n hn
   ·rw [zk] at hn;subst hn;exact h.at_ hi
  ks:=by rw [qge hi];exact h.ks.append (List.Sublist.refl _) }
theorem jgx {n:Nat} (hn:n<k.lits.length) (hc:CInv k) (hw:Wat k n x) (m y:Nat):Wat (k.turn n x) m y↔Wat k m y:=by
 have hl:∀ m,lit (k.turn n x) m=if m=n then turnL (lit k n) x else lit k m:=fun m=>qfa hn m
 have ht:=qwd hw.l (hc.d n) hw.w
 have hp:=qmh x hw.l
 have hlen:(k.turn n x).lits.length=k.lits.length:=by simp [K.turn]
 by_cases hm:m=n
 ·subst hm
  constructor
  ·rintro ⟨h1,h2,h3⟩
   rw [hl,za rfl] at h2 h3
   exact ⟨hn,by rw [← hp.length_eq];exact h2,(ht.2.2.1 y).1 h3⟩
  ·rintro ⟨h1,h2,h3⟩
   exact ⟨by rw [hlen];exact h1,by rw [hl,za rfl,hp.length_eq];exact h2,by rw [hl,za rfl];exact (ht.2.2.1 y).2 h3⟩
 ·constructor
  ·rintro ⟨h1,h2,h3⟩
   rw [hl,ze hm] at h2 h3
   exact ⟨by rw [← hlen];exact h1,h2,h3⟩
  ·rintro ⟨h1,h2,h3⟩
   exact ⟨by rw [hlen];exact h1,by rw [hl,ze hm];exact h2,by rw [hl,ze hm];exact h3⟩
theorem VInv.lits {k':K} (h:VInv k) (h1:k'.val=k.val) (h2:k'.rea=k.rea) (h3:k'.trail=k.trail):VInv k':=by
 have hv:∀ x,vl k' x=vl k x:=fun x=>by unfold vl;rw [h1]
 exact ⟨by rw [h1,h2];exact h.vr,fun x hx=>by rw [hv,hv];rw [h1] at hx;exact h.anti x hx,fun x=>by rw [hv];exact h.tri x,fun x=>by rw [h3,hv,h1];exact h.tv x,by rw [h3];exact h.nd⟩
theorem VisI.turn (h:VisI x list k kept i) (hi:i<list.length):VisI x list (k.turn (list.getD i 0) x) kept i:=by
 have hw:=h.at_ hi
 have hwt:=jgx hw.b h.c hw
 refine ⟨h.v.lits rfl rfl rfl,h.c.perm (qmh x hw.l),h.xf,h.xl,h.wx,h.ln,fun y hy n hn=>(hwt n y).2 (h.ww y hy n hn),h.wn,fun n hn=>(hwt n x).2 (h.wr n hn),fun n hn=>(hwt n x).2 (h.wk n hn),h.ks⟩
theorem VisI.turned (h:VisI x list k kept i) (hi:i<list.length):(lit (k.turn (list.getD i 0) x) (list.getD i 0)).getD 1 0=x∧(lit (k.turn (list.getD i 0) x) (list.getD i 0)).getD 0 0≠x:=by
 have hw:=h.at_ hi
 have ht:=qwd hw.l (h.c.d _) hw.w
 have hl:lit (k.turn (list.getD i 0) x) (list.getD i 0)=turnL (lit k (list.getD i 0)) x:=by
  unfold K.turn
  rw [qfa hw.b,za rfl]
 rw [hl]
 exact ⟨ht.1,ht.2.1⟩
theorem VisI.set (h:VisI x list k kept i) {y:Nat} {r:Int} (hy:y<k.val.length) (h0:vl k y=0):VisI x list (k.set y r) kept i:=by
 have hlen:(k.set y r).val.length=k.val.length:=by simp [K.set]
 have hwat:∀ m z,Wat k m z→Wat (k.set y r) m z:=fun m z hw=>⟨hw.b,hw.l,hw.w⟩
 refine ⟨h.v.set hy h0,⟨fun n x hx=>by rw [hlen];exact h.c.c n x hx,h.c.d,h.c.m,h.c.n,by rw [hlen];exact h.c.v,by rw [hlen];exact h.c.w,h.c.g⟩,?_,by rw [hlen];exact h.xl,h.wx,h.ln,fun z hz n hn=>hwat _ _ (h.ww z hz n hn),h.wn,fun n hn=>hwat _ _ (h.wr n hn),fun n hn=>hwat _ _ (h.wk n hn),h.ks⟩
 rw [qwc k y r hy (h.v.ngl hy)]
 by_cases h1:x=ng y
 ·exact za h1
 ·rw [ze h1,ze (fun e=>by have:=h.xf;rw [e,h0] at this;omega)]
  exact h.xf
theorem qqc {n:Nat} (h:(k.other n).2=true):∃ j,qae k.val (lit k n)=some j∧k.other n=({ k with lits:=k.lits.set n (swap (lit k n) 1 j),watch:=k.watch.set ((lit k n).getD j 0) (k.watch.getD ((lit k n).getD j 0) []++[n]) },true):=by
 unfold K.other at h ⊢
 cases hf:qae k.val (lit k n) with
 | none=>rw [hf] at h;cases h
 | some j=>exact ⟨j,rfl,rfl⟩
theorem qmi {n:Nat} (h:(k.other n).2=false):qae k.val (lit k n)=none∧(k.other n).1=k:=by
 unfold K.other at h ⊢
 cases hf:qae k.val (lit k n) with
 | none=>exact ⟨rfl,rfl⟩
 | some j=>rw [hf] at h;cases h
theorem VisI.other (h:VisI x list k kept i) (hi:i<list.length) (h1:(lit k (list.getD i 0)).getD 1 0=x) (ho:(k.other (list.getD i 0)).2=true):VisI x list (k.other (list.getD i 0)).1 kept (i+1):=by
 have hw:=h.at_ hi
 generalize hn:list.getD i 0=n at hw h1 ho ⊢
 obtain ⟨j,hj,he⟩:=qqc ho
 obtain ⟨j1,j2,j3,_⟩:=qma hj
 rw [he]
 simp only
 generalize hy:(lit k n).getD j 0=y at j3 ⊢
 have hyx:y≠x:=fun e=>by
  have:=h.xf
  unfold vl at this
  rw [e,this] at j3
  omega
 have hyl:y<k.val.length:=h.c.c n y (hy ▸ qj j1)
 have hyw:y<k.watch.length:=by rw [h.c.w];exact hyl
 have hp:(swap (lit k n) 1 j).Perm (lit k n):=qmg (by omega) j1
 have hs:=qhi (l:=lit k n) (i:=1) (j:=j) (by omega) j1
 have hni:n ∉ k.watch.getD y []:=fun hm=>by
  rcases (h.ww y hyx n hm).w with e|e
  ·have:=qmf (h.c.d n) (show 0 < _ by omega) j1 (e.trans hy.symm)
   omega
  ·rw [h1] at e;exact hyx e.symm
 have hl:∀ m,lit { k with lits:=k.lits.set n (swap (lit k n) 1 j),watch:=k.watch.set y (k.watch.getD y []++[n]) } m=if m=n then swap (lit k n) 1 j else lit k m:=fun m=>qfa hw.b m
 have hwo:∀ m z,m≠n→Wat k m z→Wat { k with lits:=k.lits.set n (swap (lit k n) 1 j),watch:=k.watch.set y (k.watch.getD y []++[n]) } m z:=fun m z hm hz=>by
  refine ⟨by simpa using hz.b,?_,?_⟩
  ·rw [hl,ze hm];exact hz.l
  ·rw [hl,ze hm];exact hz.w
 have hwn:∀ z,z=y∨z=(lit k n).getD 0 0→Wat { k with lits:=k.lits.set n (swap (lit k n) 1 j),watch:=k.watch.set y (k.watch.getD y []++[n]) } n z:=fun z hz=>by
  refine ⟨by simpa using hw.b,?_,?_⟩
  ·rw [hl,za rfl,hp.length_eq];exact hw.l
  ·rw [hl,za rfl,hs,hs]
   rcases hz with rfl|rfl
   ·right;rw [ze (by omega),za rfl,hy]
   ·left;rw [ze (by omega),ze (by omega)]
 have hwat:∀ z,(k.watch.set y (k.watch.getD y []++[n])).getD z []=if z=y then k.watch.getD y []++[n] else k.watch.getD z []:=fun z=>by
  rw [jc]
  by_cases e:z=y
  ·rw [za ⟨e,hyw⟩,za e]
  ·rw [ze (fun h'=>e h'.1),ze e]
 have hcp:=h.c.perm hp
 refine ⟨h.v.lits rfl rfl rfl,⟨hcp.c,hcp.d,hcp.m,hcp.n,hcp.v,by simpa using h.c.w,hcp.g⟩,h.xf,h.xl,?_,h.ln,fun z hz m hm=>?_,fun z=>?_,fun m hm=>?_,fun m hm=>?_,h.ks.trans (by rw [qge hi];exact List.sublist_append_left _ _)⟩
 ·rw [hwat,ze hyx.symm];exact h.wx
 ·rw [hwat] at hm
  by_cases e:z=y
  ·rw [za e] at hm
   rcases List.mem_append.1 hm with hm|hm
   ·exact hwo m z (fun e'=>hni (e' ▸ hm)) (e ▸ h.ww y hyx m hm)
   ·rw [zk] at hm
    subst hm
    exact hwn z (.inl e)
  ·rw [ze e] at hm
   have hz':=h.ww z hz m hm
   by_cases e':m=n
   ·subst e'
    refine hwn z (.inr ?_)
    rcases hz'.w with e2|e2
    ·exact e2.symm
    ·rw [h1] at e2;exact absurd e2.symm hz
   ·exact hwo m z e' hz'
 ·rw [hwat]
  split
  ·rw [zap]
   refine ⟨h.wn y,by simp,fun a ha b hb e=>?_⟩
   rw [zk] at hb
   subst hb e
   exact hni ha
  ·exact h.wn z
 ·have hm':m≠n:=fun e=>by
   have:=jgw h.ln hi
   rw [hn] at this
   exact this (e ▸ hm)
  exact hwo m x hm' (h.wr m (by rw [qgd hi];exact xg _ hm))
 ·have hm':m≠n:=fun e=>by
   have:=qwe h.ln hi
   rw [hn] at this
   exact this (e ▸ h.ks.subset hm)
  exact hwo m x hm' (h.wk m hm)
theorem VisI.wl (h:VisI x list k kept i) (hl:list.length≤100000) (y:Nat):(k.watch.getD y []).length≤100000:=by
 by_cases e:y=x
 ·subst e;rw [h.wx];exact hl
 ·exact zr (qgc (h.wn y) fun n hn=>(h.ww y e n hn).b) h.c.n
end Go.Ru
