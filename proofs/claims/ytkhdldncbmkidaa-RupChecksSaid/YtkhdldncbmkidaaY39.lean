/- Some texts of the library, one behind the other. -/
import Derived.Test.YtkhdldncbmkidaaY3RuI
import Derived.Test.YtkhdldncbmkidaaY3RuW3
import Derived.Test.YtkhdldncbmkidaaY32
set_option linter.unusedSimpArgs false
set_option linter.unusedVariables false
section
namespace Go.Ru
def Goes (x:Nat) (list:List Nat) (k:K) (i:Nat):Prop:=∀ j,j<i→qbw x (list.getD j 0) (qb x list k j).1=false
theorem qmj {x:Nat} {list:List Nat} {k:K} {i:Nat} (h:(qb x list k i).1.gone.getD (list.getD i 0) false=true):qb x list k (i+1)=qb x list k i:=by
 rw [qb,za h]
theorem qmk {x:Nat} {list:List Nat} {k:K} {i:Nat} (h:(qb x list k i).1.gone.getD (list.getD i 0) false=false) (h1:vl ((qb x list k i).1.turn (list.getD i 0) x) ((lit ((qb x list k i).1.turn (list.getD i 0) x) (list.getD i 0)).getD 0 0)≤0) (h2:(((qb x list k i).1.turn (list.getD i 0) x).other (list.getD i 0)).2=true) :
  qb x list k (i+1)=((((qb x list k i).1.turn (list.getD i 0) x).other (list.getD i 0)).1,(qb x list k i).2):=by
 rw [qb,ze (by rw [h];simp),za h1,za h2]
theorem qqd {x:Nat} {list:List Nat} {k:K} {i:Nat} (h:(qb x list k i).1.gone.getD (list.getD i 0) false=false) (h1:vl ((qb x list k i).1.turn (list.getD i 0) x) ((lit ((qb x list k i).1.turn (list.getD i 0) x) (list.getD i 0)).getD 0 0)≤0) (h2:(((qb x list k i).1.turn (list.getD i 0) x).other (list.getD i 0)).2=false) :
  qb x list k (i+1)=(((qb x list k i).1.turn (list.getD i 0) x).set ((lit ((qb x list k i).1.turn (list.getD i 0) x) (list.getD i 0)).getD 0 0) (list.getD i 0),(qb x list k i).2++[list.getD i 0]):=by
 rw [qb,ze (by rw [h];simp),za h1,ze (by rw [h2];simp)]
theorem qqe {x:Nat} {list:List Nat} {k:K} {i:Nat} (h:(qb x list k i).1.gone.getD (list.getD i 0) false=false) (h1:¬ vl ((qb x list k i).1.turn (list.getD i 0) x) ((lit ((qb x list k i).1.turn (list.getD i 0) x) (list.getD i 0)).getD 0 0)≤0) :
  qb x list k (i+1)=((qb x list k i).1.turn (list.getD i 0) x,(qb x list k i).2++[list.getD i 0]):=by
 rw [qb,ze (by rw [h];simp),ze h1]
theorem qwf {x n:Nat} {k:K} (hg:k.gone.getD n false=false) (h:qbw x n k=false) (h1:vl (k.turn n x) ((lit (k.turn n x) n).getD 0 0)≤0) (h2:((k.turn n x).other n).2=false) (ht:∀ y,vl k y=0∨vl k y=1∨vl k y=-1):vl (k.turn n x) ((lit (k.turn n x) n).getD 0 0)=0:=by
 unfold qbw at h
 rw [hg,h2] at h
 simp only [Bool.not_false,zbc,Bool.and_true,decide_eq_false_iff_not] at h
 omega
theorem qgf {x:Nat} {list:List Nat} {k:K} (hV:VisI x list k [] 0):∀ i,i≤list.length→Goes x list k i→VisI x list (qb x list k i).1 (qb x list k i).2 i
 | 0,_,_=>hV
 | i+1,hi,hs=>by
  have ih:=qgf hV i (by omega) (fun j hj=>hs j (by omega))
  have hi':i<list.length:=hi
  have hst:=hs i (zav i)
  by_cases hg:(qb x list k i).1.gone.getD (list.getD i 0) false=true
  ·rw [qmj hg];exact ih.skip hi'
  ·rw [zbf] at hg
   have h1:=ih.turn hi'
   have ht:=ih.turned hi'
   by_cases hz:vl ((qb x list k i).1.turn (list.getD i 0) x) ((lit ((qb x list k i).1.turn (list.getD i 0) x) (list.getD i 0)).getD 0 0)≤0
   ·cases ho:(((qb x list k i).1.turn (list.getD i 0) x).other (list.getD i 0)).2 with
    | true=>rw [qmk hg hz ho];exact h1.other hi' ht.1 ho
    | false=>
     rw [qqd hg hz ho]
     have h0:=qwf hg hst hz ho ih.v.tri
     have hw:=h1.at_ hi'
     exact (h1.set (h1.c.c _ _ (qj (by have:=hw.l;omega))) h0).keep hi'
   ·rw [qqe hg hz];exact h1.keep hi'
theorem jgy (k:K) (n:Nat):(k.other n).1.we=k.we:=by
 unfold K.other
 cases qae k.val (lit k n) <;> rfl
theorem qwg (x:Nat) (list:List Nat) (k:K):∀ i,(qb x list k i).1.we=k.we
 | 0=>rfl
 | i+1=>by
  have ih:=qwg x list k i
  unfold qb
  split
  ·exact ih
  ·split
   ·split
    ·rw [jgy];exact ih
    ·exact ih
   ·exact ih
def phys (x:Nat) (list:List Nat) (k:K) (kept:List Nat):K:={ k with watch:=k.watch.set x (kept++list.drop kept.length) }
theorem qjg {x:Nat} {list:List Nat} {k:K} {kept:List Nat} (hx:x<k.watch.length):(phys x list k kept).watch.getD x []=kept++list.drop kept.length:=by
 unfold phys
 simp only
 rw [jc,za ⟨rfl,hx⟩]
theorem qqf {list kept:List Nat} (h:kept.length≤list.length):(kept++list.drop kept.length).length=list.length:=by
 rw [zi,zah];omega
theorem qwh {list kept:List Nat} {i:Nat} (h:kept.length≤i) (hi:i≤list.length):(kept++list.drop kept.length).getD i 0=list.getD i 0:=by
 rw [xk,xk,zl h,xa]
 congr 2;omega
theorem qwi {list kept:List Nat} {n:Nat} (h:kept.length<list.length):(kept++list.drop kept.length).set kept.length n=(kept++[n])++list.drop (kept++[n]).length:=by
 rw [List.set_append_right _ _ (zj _),zad,xe]
 congr 1
 rw [List.drop_eq_getElem_cons h,zi]
 rfl
theorem jgz {x n:Nat} {list kept:List Nat} {k:K} (h:∀ j,qae k.val (lit k n)=some j→(lit k n).getD j 0≠x):(phys x list k kept).other n=(phys x list (k.other n).1 kept,(k.other n).2):=by
 unfold K.other
 have e1:qae (phys x list k kept).val (lit (phys x list k kept) n)=qae k.val (lit k n):=rfl
 rw [e1]
 cases hf:qae k.val (lit k n) with
 | none=>rfl
 | some j=>
  have hne:=h j hf
  have e2:lit (phys x list k kept) n=lit k n:=rfl
  have e3:(phys x list k kept).watch.getD ((lit k n).getD j 0) []=k.watch.getD ((lit k n).getD j 0) []:=by
   unfold phys
   simp only
   rw [jc,ze (fun h=>hne h.1)]
  simp only [e2,e3]
  unfold phys
  simp only
  rw [List.set_comm _ _ (Ne.symm hne)]
theorem VisI.first {x:Nat} {list:List Nat} {k:K} {kept:List Nat} {i:Nat} (h:VisI x list k kept i) {n j:Nat} (hj:qae k.val (lit k n)=some j):(lit k n).getD j 0≠x:=fun e=>by
 have h3:=(qma hj).2.2.1
 have:=h.xf
 unfold vl at this
 rw [e,this] at h3
 omega
theorem qwj {x:Nat} {k:K} (h:Goes x (k.watch.getD x []) k (k.watch.getD x []).length):k.visit x =
  ({ (qb x (k.watch.getD x []) k (k.watch.getD x []).length).1 with watch:=(qb x (k.watch.getD x []) k (k.watch.getD x []).length).1.watch.set x (qb x (k.watch.getD x []) k (k.watch.getD x []).length).2,we:=bump (qb x (k.watch.getD x []) k (k.watch.getD x []).length).1.we x },true):=by
 unfold K.visit
 rw [List.find?_eq_none.2]
 intro j hj
 rw [h j (List.mem_range.1 hj)]
 simp
theorem qwk {x i:Nat} {k:K} (hi:i<(k.watch.getD x []).length) (h:Goes x (k.watch.getD x []) k i) (hs:qbw x ((k.watch.getD x []).getD i 0) (qb x (k.watch.getD x []) k i).1=true) {k1:K} (hk:k1=(qb x (k.watch.getD x []) k i).1.turn ((k.watch.getD x []).getD i 0) x) :
  k.visit x=({ k1 with watch:=k1.watch.set x ((qb x (k.watch.getD x []) k i).2++(k.watch.getD x []).drop i),we:=bump k1.we x },false):=by
 subst hk
 unfold K.visit
 rw [List.find?_range_eq_some.2 ⟨hs,List.mem_range.2 hi,fun j hj=>by rw [h j hj];rfl⟩]
theorem qml {x i:Nat} {list:List Nat} {k:K} (h:Goes x list k i) (hs:qbw x (list.getD i 0) (qb x list k i).1=false):Goes x list k (i+1):=fun j hj=>by
 by_cases e:j=i
 ·subst e;exact hs
 ·exact h j (by omega)
end Go.Ru
end
section
namespace Go.Proofs.Ytkhdldncbmkidaa
open List renaming getD_eq_getElem?_getD → zd
open Go Go.Sx Go.RowKit Go.Ru
set_option maxRecDepth 100000
set_option maxHeartbeats 8000000
def Hid (p:Prop):Prop:=p
theorem Hid.in {p:Prop} (h:p):Hid p:=h
theorem Hid.out {p:Prop} (h:Hid p):p:=h
theorem Sz.of {k:K} (hv:VInv k) (hc:CInv k):Sz k:=⟨hv.vr,hc.w,hc.v,zr hv.len hc.v⟩
structure VisQ (x:Nat) (list:List Nat) (kv:K) (kept:List Nat) (i:Nat) (kq:K) (n:Nat):Prop where
 xw:x<kq.watch.length
 wl:(kq.watch.getD x []).length=list.length
 sz:Sz kq
 nb:n<kq.lits.length
 l2:2≤(kq.lits.getD n []).length
 l0:(kq.lits.getD n []).getD 0 0<kq.val.length
 l1:(kq.lits.getD n []).getD 1 0<kq.val.length
 kl:kept.length≤i
theorem visq {x:Nat} {list:List Nat} {kv:K} {kept:List Nat} {i:Nat} (h:VisI x list kv kept i) (hi:i<list.length):VisQ x list kv kept i (phys x list kv kept) (list.getD i 0):=by
 have hkl:kept.length≤i:=zr h.ks.length_le (by rw [zu];omega)
 have hxw:x<kv.watch.length:=by rw [h.c.w];exact h.xl
 have hw:=h.at_ hi
 have hl2:=hw.l
 have hsz:=Sz.of h.v h.c
 refine ⟨by simpa [phys] using hxw,by rw [qjg hxw];exact qqf (by omega),⟨hsz.vr,by simpa [phys] using hsz.vw,hsz.v,hsz.t⟩,hw.b,hw.l,h.c.c _ _ (qj (by unfold lit at hl2 ⊢;omega)),h.c.c _ _ (qj (by unfold lit at hl2 ⊢;omega)),hkl⟩
structure VisQ1 (x:Nat) (list:List Nat) (kv:K) (kept:List Nat) (n:Nat) (kq k1:K):Prop where
 sz:Sz k1
 nb:n<k1.lits.length
 c:∀ y∈lit k1 n,y<k1.val.length
 l2:2≤(lit k1 n).length
 l9:(lit k1 n).length≤1000000
 w:∀ y,(k1.watch.getD y []).length≤1000000
 lt:k1.lits.getD n []=turnL (kq.lits.getD n []) x
 lz:(k1.lits.getD n []).getD 0 0<k1.val.length
 o:k1.other n=(phys x list ((kv.turn n x).other n).1 kept,((kv.turn n x).other n).2)
 p:k1=phys x list (kv.turn n x) kept
 wv:k1.watch.length=(kv.turn n x).watch.length
theorem jha {x:Nat} {list:List Nat} {kv k1:K} {kept:List Nat} {n:Nat} (hx:x<kv.watch.length) (hl:kept.length<list.length) (h1:k1=phys x list kv kept) :
  phys x list kv (kept++[n])={ k1 with watch:=k1.watch.set x ((k1.watch.getD x []).set kept.length n) }:=by
 subst h1
 rw [qjg hx,qwi hl]
 unfold phys
 simp only [List.set_set]
theorem visq1 {x:Nat} {list:List Nat} {kv:K} {kept:List Nat} {i n:Nat} (h:VisI x list kv kept i) (hi:i<list.length) (hll:list.length≤100000) (hn:n=list.getD i 0) :
  VisQ1 x list kv kept n (phys x list kv kept) ((phys x list kv kept).turn n x):=by
 subst hn
 have h1:=h.turn hi
 have hw:=h1.at_ hi
 have hxw:x<kv.watch.length:=by rw [h.c.w];exact h.xl
 have hsz:=Sz.of h1.v h1.c
 have hl2:=hw.l
 have hkl:kept.length≤i:=zr h.ks.length_le (by rw [zu];omega)
 have e:(phys x list kv kept).turn (list.getD i 0) x=phys x list (kv.turn (list.getD i 0) x) kept:=rfl
 rw [e]
 refine ⟨⟨hsz.vr,by simpa [phys] using hsz.vw,hsz.v,hsz.t⟩,hw.b,h1.c.c _,hl2,zr (h1.c.m _) (by decide),fun y=>?_,?_,h1.c.c _ _ (qj (by unfold lit at hl2 ⊢;omega)),jgz fun j hj=>h1.first hj,rfl,by simp [phys]⟩
 ·unfold phys
  simp only
  rw [jc]
  split
  ·rw [qqf (by omega)];omega
  ·exact zr (h1.wl hll y) (by decide)
 ·exact (qfa (h.at_ hi).b _).trans (za rfl)
theorem jhb {e:TypeId} {ws:List (List Nat)} {we:Nat→Nat} {n m y e1 l1:Nat} {g:Nat→List AV} (hn:n<ws.length) (hg:g 0=[iv y]) (he1:e1=we n) (hl1:l1=(ws.getD n []).length) (hm:m<(ws.getD n []).length) :
  SoLe (.fam e 1 ws.length (upd we n e1) (upd (fun i=>(ws.getD i []).length) n l1) (upd (fun i=>encN (ws.getD i [])) n (over m 1 g (encN (ws.getD n [])))))
   (.fam e 1 ws.length we (fun i=>((ws.set n ((ws.getD n []).set m y)).getD i []).length) (fun i=>encN ((ws.set n ((ws.getD n []).set m y)).getD i []))):=by
 have hT:(ws.set n ((ws.getD n []).set m y)).getD n []=(ws.getD n []).set m y:=by rw [jz,za ⟨rfl,hn⟩]
 refine qjd (fun j hj hne=>?_) ⟨he1,?_,fun j hj=>?_⟩
 ·try dsimp only
  rw [jz,ze (fun h=>hne h.1)]
  exact ⟨rfl,rfl,fun _ _=>LeL.refl _⟩
 ·try dsimp only
  rw [hT,xd,hl1]
 ·try dsimp only
  rw [hT]
  refine LeL.of_eq ?_
  unfold over
  by_cases h:m≤j∧j<m+1
  ·obtain rfl:j=m:=by omega
   rw [za h,zad,hg]
   unfold encN encL
   rw [jz,za ⟨rfl,hm⟩]
  ·rw [ze h]
   unfold encN encL
   rw [jz,ze (fun h'=>h (by omega))]
theorem qwl {ws:List (List Nat)} {we:Nat→Nat} {n N:Nat} {w:List Nat} {l e:Nat} {c:List AV} (hn:n<ws.length) (hc:qy c 0 [.own 6 n e l]=[.own 6 n e l]) (hl:l=w.length) (he:e=we n+1) :
  ∀ j,j<N→LeL (if j=n then qy c 0 [.own 6 n e l] else [AV.own 6 j (we j) (ws.getD j []).length]) [.own 6 j (bump we n j) ((ws.set n w).getD j []).length]:=fun j _=>by
 refine LeL.of_eq ?_
 rw [hc]
 unfold bump
 by_cases h:j=n
 ·subst h
  rw [za rfl,za rfl,jz,za ⟨rfl,hn⟩,hl,he]
 ·rw [ze h,ze h,jz,ze (fun h'=>h h'.1)]
theorem qqg {e:TypeId} {ws:List (List Nat)} {we ep len:Nat→Nat} {n m e1:Nat} {w:List Nat} {f:Nat→Nat→List AV} {g:Nat→List AV} (hn:n<ws.length) (h1:∀ j,j≠n→ep j=we j∧len j=(ws.getD j []).length∧∀ k,f j k=encN (ws.getD j []) k)
  (he:e1=we n+1) (hm:m=w.length) (hg:∀ j,j<w.length→g j=encN w j) :
  SoLe (.fam e 1 ws.length (upd ep n e1) (upd len n m) (upd f n g)) (.fam e 1 ws.length (bump we n) (fun i=>((ws.set n w).getD i []).length) (fun i=>encN ((ws.set n w).getD i []))):=by
 have hT:(ws.set n w).getD n []=w:=by rw [jz,za ⟨rfl,hn⟩]
 refine qjd (fun j hj hne=>?_) ⟨?_,?_,fun j hj=>?_⟩
 ·obtain ⟨a,b,c⟩:=h1 j hne
  try dsimp only
  rw [jz,ze (fun h=>hne h.1)]
  refine ⟨?_,b,fun k _=>LeL.of_eq (c k)⟩
  unfold bump
  rw [ze hne];exact a
 ·unfold bump;rw [za rfl];exact he
 ·try dsimp only
  rw [hT,hm]
 ·try dsimp only
  rw [hT]
  exact LeL.of_eq (hg j (by omega))
theorem qqh {α:Type} {g:Nat→α} {n j:Nat} {y:α} (h:j≠n):upd g n y j=g j:=ze h
theorem jhc {α:Type} {g:Nat→α} {n:Nat} {y:α}:upd g n y n=y:=za rfl
theorem qjh {l m:List Nat} {j:Nat} (h:j<l.length):(l++m).getD j 0=l.getD j 0:=by
 rw [zd,zd,zn h]
theorem qqi {l m:List Nat} {j:Nat} (h:l.length≤j):(l++m).getD j 0=m.getD (j - l.length) 0:=by
 rw [zd,zd,zl h]
theorem qwm {l:List Nat} {a j:Nat}:(l.drop a).getD j 0=l.getD (a+j) 0:=by
 rw [zd,zd,xa]
theorem jhd {list kept:List Nat} {i n:Nat} (hk:kept.length≤i) (hi:i<list.length) (hn:n=list.getD i 0) {w:List Nat} (hw:w=(kept++[n])++list.drop (kept++[n]).length) (j:Nat) (hj:j<(kept++list.drop i).length) :
  over (kept.length+1) (list.length - (i+1)) (fun j=>encN w (i+1+j)) (encN w) j=encN (kept++list.drop i) j:=by
 have key:∀ a b:Nat,w.getD a 0=(kept++list.drop i).getD b 0→encN w a=encN (kept++list.drop i) b:=fun a b h=>by
  unfold encN encL
  rw [h]
 have hlen:(kept++[n]).length=kept.length+1:=by rw [zi];rfl
 rw [zi,zah] at hj
 have hR:∀ b,kept.length≤b→(kept++list.drop i).getD b 0=list.getD (i+(b - kept.length)) 0:=fun b hb=>by
  rw [qqi hb,qwm]
 unfold over
 by_cases h1:kept.length+1≤j∧j<kept.length+1+(list.length - (i+1))
 ·rw [za h1]
  refine key _ _ ?_
  rw [hR j (by omega),hw,qqi (by omega),qwm]
  congr 1
  omega
 ·rw [ze h1]
  refine key _ _ ?_
  rw [hw]
  by_cases h2:j<kept.length
  ·rw [qjh (by omega),qjh h2,qjh h2]
  ·obtain rfl:j=kept.length:=by omega
   rw [hR _ (zj _),zad,zac,qjh (by omega),qqi (zj _),zad,← hn]
   rfl
theorem qwn {list kept w:List Nat} (hw:w=kept++list.drop kept.length) (j:Nat) (hj:j<kept.length):encN w j=encN kept j:=by
 unfold encN encL
 rw [hw,qjh hj]
theorem qn (k:K):rowsLt 11 (idx 0 (stK k)):=qiy ⟨fun _ _=>rfl,fun _ _=>rfl,trivial⟩
theorem qat (k:K):NamedL (idx 0 (stK k)) (names [0,1,2,3,4,5,6,7,8,9,10] 11) [0,1,2,3,4,5,6,7,8,9,10] (stK k):=by
 unfold stK boxK
 repeat' (first|exact trivial|exact rfl|exact Le.refl _|exact SoLe.refl _|exact fun _ _=>LeL.refl _|exact fun _ _ _ _=>LeL.refl _|refine And.intro ?_ ?_)
end Go.Proofs.Ytkhdldncbmkidaa
end
