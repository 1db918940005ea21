/- Some texts of the library, one behind the other. -/
import Derived.Test.YthfaleaojlnnoaaY70
import Derived.Deep.LoopGhost
import Derived.Orders
import Derived.Lib.Bytealg
import Derived.Laws.Externs
import Derived.Below
import Derived.ChangeSame
import Derived.OpenShut
import Derived.ChangeMaps5
import Derived.Deep.Slices
import Derived.WideKeyArgs
import Derived.LoopN
set_option linter.unusedSimpArgs false
set_option linter.unusedVariables false
section
namespace Go.Sx
open Go Go.RowKit
variable {rd:Rd} {mp:Mp} {st:List (Nat × SO)} {nx:Nat} {w:World} {s:ASt} {a:Act} {c:Ctx}
def MemR (rd:Rd) (w:World):Prop:=(∀ g o v,rd g o=some v→w.cell? ⟨g,o,none⟩=some v)∧(∀ g o v,rd g o=some v→v.oneCell'=true)∧TabR rd w
theorem Mem.memR (h:Mem c rd mp st nx w):MemR rd w:=⟨h.rdw,h.rd1,h.tabR⟩
def Con (P:Program) (f:FuncId) (args:List AV) (res:AV):Prop:=
 ∀ rd w vs,MemR rd w→RelL rd Mp.none args vs→Invokes P f vs w (fun v w'=>
  ∃ rd',Rel rd' Mp.none res v∧Rd.le rd rd'∧MemR rd' w'∧(∀ g o v,rd' g o=some v→rd g o=some v∨w.heap.size≤g)∧Below w.heap.size w w') (fun _ _=>False)
open Classical in
noncomputable def frzRd (rd:Rd) (mp:Mp) (st:List (Nat × SO)) (w:World):Rd:=fun g o=>
 if rd g o≠none then rd g o
 else if ∃ p,There st p∧blkOf mp p=some g then (match w.cell? ⟨g,o,none⟩ with|some v=>if v.oneCell'=true then some v else none|none=>none) else none
theorem qct:Rd.le rd (frzRd rd mp st w):=by
 intro g o v h
 simp only [frzRd]
 rw [zb (by rw [h];simp)]
 exact h
theorem qwm (hm:Mem c rd mp st nx w) {p:Pl} (hp:There st p) {g o:Nat} {v:Value} (hg:blkOf mp p=some g) (hc:w.cell? ⟨g,o,none⟩=some v) (h1:v.oneCell'=true):frzRd rd mp st w g o=some v:=by
 have:=(hm.home hp hg).2.1 o
 simp only [frzRd]
 rw [za (by rw [this];simp),zb ⟨p,hp,hg⟩,hc]
 simp [h1]
theorem qih {g o:Nat} {u:Value} (h:frzRd rd mp st w g o=some u):rd g o=some u∨(w.cell? ⟨g,o,none⟩=some u∧u.oneCell'=true∧∃ p,There st p∧blkOf mp p=some g):=by
 simp only [frzRd] at h
 split at h
 ·exact .inl h
 ·split at h
  ·rename_i hex
   split at h
   ·rename_i v hv
    split at h
    ·rename_i h1
     cases h
     exact .inr ⟨hv,h1,hex⟩
    ·cases h
   ·cases h
  ·cases h
theorem qrt (hm:Mem c rd mp st nx w):(∀ g o v,frzRd rd mp st w g o=some v→w.cell? ⟨g,o,none⟩=some v)∧(∀ g o v,frzRd rd mp st w g o=some v→v.oneCell'=true):=by
 refine ⟨fun g o v h=>?_,fun g o v h=>?_⟩
 ·rcases qih h with h|⟨h,_⟩
  ·exact hm.rdw _ _ _ h
  ·exact h
 ·rcases qih h with h|⟨_,h,_⟩
  ·exact hm.rd1 _ _ _ h
  ·exact h
theorem qly (hm:Mem c rd mp st nx w):MemR (frzRd rd mp st w) w:=
 ⟨(qrt hm).1,(qrt hm).2,hm.tabR.step qct (fun _ _=>rfl)⟩
theorem qwn {x:AV} {v:Value} (h:Rel rd mp x v):Rel (frzRd rd mp st w) Mp.none (bif x.pure1 then x else .any) v:=by
 cases hp:x.pure1 with
 | true=>exact (h.pure1 hp).mono qct (Mp.le.refl _)
 | false=>exact .any _ _
theorem qlz (hm:Mem c rd mp st nx w):∀ (n:Nat) (x:AV) (v:Value),qcm st n x→Rel rd mp x v→Rel (frzRd rd mp st w) Mp.none (frzC st n x) v:=by
 intro n
 induction n with
 | zero=>
  intro x v _ h
  have:frzC st 0 x=bif x.pure1 then x else .any:=by cases x <;> rfl
  rw [this]
  exact qwn h
 | succ n ih=>
  intro x v hok h
  cases x with
  | own r i e m=>
   simp only [frzC]
   split
   ·rename_i ob R hl
    simp only [qcm,hl] at hok
    obtain ⟨hob,hn,hdeep⟩:=hok
    obtain ⟨xs,hv,hown,hf,hxs,hsep⟩:=qfr hm hl hob h hn
    obtain ⟨_,hn2⟩:=hn
    subst hn2
    have hth:There st (.rw r i):=⟨R,qjt hl hob⟩
    rcases hown.2 with ⟨rfl,h0⟩|⟨g,lo,cap,cur,rfl,hh,hnc,_⟩
    ·rw [h0];exact .slc0 _ _ _ _ _
    ·by_cases h0:R.n=0
     ·rw [h0];exact .slc0 _ _ _ _ _
     ·have hg:blkOf mp (.rw r i)=some g:=by simp [blkOf,hv,Value.ownBlock]
      have hcell:∀ k j,k<R.n→j<R.sz→∃ u,w.cell? ⟨g,lo+(k * R.sz+j),none⟩=some u∧u.oneCell'=true:=by
       intro k j hk hj
       obtain ⟨u,hu,h1,_⟩:=hxs k j _ hk (ze (by rw [hf k hk];exact hj))
       exact ⟨u,hown.cells hu,h1⟩
      have mk:∀ F:Nat→List AV,(∀ k,k<R.n→(F k).length=R.sz)→(∀ (k j:Nat) y,k<R.n→(F k)[j]?=some y→Rel (frzRd rd mp st w) Mp.none y ((w.cell? ⟨g,lo+(k * R.sz+j),none⟩).getD undef))→
        Rel (frzRd rd mp st w) Mp.none (.slc R.sz R.n F) (.slice (some ⟨g,lo,none⟩) R.n cap):=by
       intro F h1 h2
       refine .slc _ _ _ _ _ _ _ (fun k j=>(w.cell? ⟨g,lo+(k * R.sz+j),none⟩).getD undef) (by omega) hnc h1 (fun k j hk hj=>?_) h2
       obtain ⟨u,hu,h1⟩:=hcell k j hk hj
       rw [hu]
       exact qwm hm hth hg hu h1
      cases hids:R.ids with
      | nil=>
       refine mk _ hf (fun k j y hk hy=>?_)
       obtain ⟨u,hu,h1,hr⟩:=hxs k j y hk hy
       rw [hown.cells hu,zal]
       rw [hids,Mp.sel_nil] at hr
       exact hr.mono qct (Mp.le.refl _)
      | cons q qs=>
       simp only [hids] at hdeep
       refine mk _ (fun k hk=>by rw [zu];exact hf k hk) (fun k j y hk hy=>?_)
       rw [zg] at hy
       obtain ⟨y',hy',rfl⟩:=Option.map_eq_some_iff.1 hy
       obtain ⟨u,hu,h1,hr⟩:=hxs k j y' hk hy'
       rw [hown.cells hu,zal]
       exact ih y' u (qee (hdeep k hk) j y' hy') (hr.mono (Rd.le.refl _) (Mp.sel_le _ _))
   ·rename_i hnone
    split
    ·rename_i sz ep n' f hl
     simp only [qcm,hnone,hl] at hok
     obtain ⟨rfl,rfl,rfl⟩:=hok
     obtain ⟨v',h1,h2⟩:=hm.ro _ _ _ _ _ hl
     obtain ⟨vr,er,nr,g1,_,_,g4⟩:=qob h
     rw [h1] at g1;cases g1
     rw [g4 rfl rfl]
     exact h2.mono qct (Mp.le.refl _)
    ·exact .any _ _
  | ptr b o=>
   simp only [frzC]
   split
   ·rename_i ty cs hl
    simp only [qcm,hl] at hok
    obtain ⟨⟨hone,hob⟩,hdeep⟩:=hok
    obtain ⟨g,hg,rfl⟩:=qie h
    obtain ⟨g',vs,h1,h2,h3,h4,h5,h6⟩:=hm.bx b ty cs hl
    rw [hg] at h1;cases h1
    have key:∀ (j:Nat) y,(cs.drop o)[j]?=some y→∃ u,vs[o+j]?=some u∧Rel rd mp y u∧w.cell? ⟨g,o+j,none⟩=some u∧u.oneCell'=true:=by
     intro j y hy
     have hy':=hy
     rw [zy] at hy'
     have hlt:o+j<vs.size:=by rw [h3];exact (List.getElem?_eq_some_iff.1 hy').1
     have hr:=h4 _ y vs[o+j] hy' (by simp [hlt])
     refine ⟨vs[o+j],by simp [hlt],hr,?_,?_⟩
     ·rw [cell_of_row w g (o+j) vs ty (0,0) h2];simp [hlt]
     ·have hmem:=zh hy
      exact qod hm hr (List.all_eq_true.1 hone y hmem) (qrk hob y hmem)
    refine .rptr _ _ _ _ (fun j=>(vs[o+j]?).getD undef) (fun j x hx=>?_) (fun j x hx=>?_)
    ·rw [zg] at hx
     obtain ⟨y,hy,rfl⟩:=Option.map_eq_some_iff.1 hx
     obtain ⟨u,hu,_,hc,ho⟩:=key j y hy
     rw [hu]
     exact qwm hm (p:=.bx b) ⟨ty,cs,hl⟩ hg hc ho
    ·rw [zg] at hx
     obtain ⟨y,hy,rfl⟩:=Option.map_eq_some_iff.1 hx
     obtain ⟨u,hu,hr,_,_⟩:=key j y hy
     rw [hu]
     exact ih y u (qee hdeep j y hy) hr
   ·exact .any _ _
  | fn f cs=>
   cases h with
   | fn _ _ _ vs hs he=>
    refine .fn _ _ _ _ (by simpa using hs) (fun j x v hx hv=>?_)
    rw [zg] at hx
    obtain ⟨y,hy,rfl⟩:=Option.map_eq_some_iff.1 hx
    exact ih y v (qee hok j y hy) (he j y v hy hv)
  | _=>exact qwn h
theorem qoh (hm:Mem c rd mp st nx w) (x:AV) (v:Value) (hok:qic st x) (h:Rel rd mp x v):Rel (frzRd rd mp st w) Mp.none (frzB st x) v:=by
 by_cases hag:∃ cs,x=.agg cs
 ·obtain ⟨cs,rfl⟩:=hag
  obtain ⟨vs,rfl,hs,he⟩:=qjv h
  simp only [frzB]
  refine .agg _ _ _ (by simpa using hs) (fun j x v hx hv=>?_)
  rw [zg] at hx
  obtain ⟨y,hy,rfl⟩:=Option.map_eq_some_iff.1 hx
  exact qlz hm 4 y v (qee hok j y hy) (he j y v hy hv)
 ·by_cases hcn:∃ b y,x=.cnd b y
  ·obtain ⟨b,y,rfl⟩:=hcn
   cases h with
   | cnd _ _ _ _ h1 h0=>exact .cnd _ _ _ _ (fun hb=>qlz hm 4 y v (hok hb) (h1 hb)) h0
  ·have h1:frzB st x=frzC st 4 x:=by
    cases x with
    | agg cs=>exact absurd ⟨cs,rfl⟩ hag
    | cnd b y=>exact absurd ⟨b,y,rfl⟩ hcn
    | _=>rfl
   have h2:qcm st 4 x:=by
    cases x with
    | agg cs=>exact absurd ⟨cs,rfl⟩ hag
    | cnd b y=>exact absurd ⟨b,y,rfl⟩ hcn
    | _=>exact hok
   rw [h1]
   exact qlz hm 4 x v h2 h
theorem qru (hm:Mem c rd mp st nx w) (x:AV) (v:Value) (hok:qqz st x) (h:Rel rd mp x v):Rel (frzRd rd mp st w) Mp.none (frzV st x) v:=by
 by_cases ht:∃ vs,x=.tup vs
 ·obtain ⟨xs,rfl⟩:=ht
  obtain ⟨vs,rfl,hs,he⟩:=qvp h
  simp only [frzV]
  refine .tup _ _ _ (by simpa using hs) (fun j x v hx hv=>?_)
  rw [zg] at hx
  obtain ⟨y,hy,rfl⟩:=Option.map_eq_some_iff.1 hx
  exact qoh hm y v (qee hok j y hy) (he j y v hy hv)
 ·have h1:frzV st x=frzB st x:=by
   cases x with
   | tup vs=>exact absurd ⟨vs,rfl⟩ ht
   | _=>rfl
  have h2:qic st x:=by
   cases x with
   | tup vs=>exact absurd ⟨vs,rfl⟩ ht
   | _=>exact hok
  rw [h1]
  exact qoh hm x v h2 h
def Le (x y:AV):Prop:=∀ rd mp v,Rel rd mp x v→Rel rd mp y v
theorem Le.refl (x:AV):Le x x:=fun _ _ _ h=>h
theorem Le.trans {x y z:AV} (h:Le x y) (k:Le y z):Le x z:=fun rd mp v r=>k rd mp v (h rd mp v r)
theorem Le.any (x:AV):Le x .any:=fun _ _ _ _=>.any _ _
theorem Le.of_eq {x y:AV} (h:x=y):Le x y:=h ▸ Le.refl x
theorem Le.nils (sz:Nat) (f:Nat→List AV):Le .nils (.slc sz 0 f):=fun _ _ _ h=>by cases h;exact .slc0 _ _ _ _ _
theorem Le.cnd {b:Bool} {x:AV} (h:b=true):Le (.cnd b x) x:=fun _ _ _ r=>by cases r with|cnd _ _ _ _ k _=>exact k h
theorem Le.slc {sz n m:Nat} {f g:Nat→List AV} (hn:n=m) (h:∀ i,i<n→f i=g i):Le (.slc sz n f) (.slc sz m g):=by
 subst hn
 intro rd mp v r
 cases r with
 | slc0=>exact .slc0 _ _ _ _ _
 | slc _ _ _ _ blk off cap val h0 hc hs hr he=>exact .slc _ _ _ _ _ _ _ val h0 hc (fun i hi=>h i hi ▸ hs i hi) hr (fun i j x hi hx=>he i j x hi (by rw [h i hi];exact hx))
theorem Le.ifc {t:TypeId} {x y:AV} (h:Le x y):Le (.ifc t x) (.ifc t y):=fun rd mp v r=>by cases r with|ifc _ _ _ v hv=>exact .ifc _ _ _ _ (h _ _ _ hv)
def LeL:List AV→List AV→Prop
 | [],[]=>True
 | x::xs,y::ys=>Le x y∧LeL xs ys
 | _,_=>False
theorem LeL.refl:∀ xs:List AV,LeL xs xs
 | []=>trivial
 | x::xs=>⟨Le.refl x,LeL.refl xs⟩
theorem LeL.of_eq {xs ys:List AV} (h:xs=ys):LeL xs ys:=h ▸ LeL.refl xs
theorem LeL.get:∀ {xs ys:List AV},LeL xs ys→xs.length=ys.length∧∀ (j:Nat) x y,xs[j]?=some x→ys[j]?=some y→Le x y
 | [],[],_=>⟨rfl,fun j x y hx=>by simp at hx⟩
 | x::xs,y::ys,h=>by
  obtain ⟨h1,h2⟩:=LeL.get h.2
  refine ⟨by simp [h1],fun j u v hu hv=>?_⟩
  cases j with
  | zero=>simp at hu hv;subst hu;subst hv;exact h.1
  | succ j=>simp at hu hv;exact h2 j u v hu hv
 | [],_::_,h=>absurd h id
 | _::_,[],h=>absurd h id
theorem Le.slcL {sz n m:Nat} {f g:Nat→List AV} (hn:n=m) (h:∀ i,i<n→LeL (f i) (g i)):Le (.slc sz n f) (.slc sz m g):=by
 subst hn
 unfold Le
 intro rd mp v r
 cases r with
 | slc0=>exact .slc0 _ _ _ _ _
 | slc _ _ _ _ blk off cap val h0 hc hs hr he=>
  refine .slc _ _ _ _ _ _ _ val h0 hc (fun i hi=>by rw [← (h i hi).get.1];exact hs i hi) hr (fun i j x hi hx=>?_)
  have hj:j<(f i).length:=by rw [(h i hi).get.1];exact (List.getElem?_eq_some_iff.1 hx).1
  exact (h i hi).get.2 j _ x (ze hj) hx _ _ _ (he i j _ hi (ze hj))
theorem Le.agg {xs ys:List AV} (h:LeL xs ys):Le (.agg xs) (.agg ys):=by
 intro rd mp v r
 cases r with
 | agg _ _ vs hs he=>
  refine .agg _ _ _ (by rw [hs,h.get.1]) (fun j y v hy hv=>?_)
  have hj:j<xs.length:=by rw [h.get.1];exact (List.getElem?_eq_some_iff.1 hy).1
  exact h.get.2 j xs[j] y (ze hj) hy _ _ _ (he j xs[j] v (ze hj) hv)
theorem Le.tup {xs ys:List AV} (h:LeL xs ys):Le (.tup xs) (.tup ys):=by
 intro rd mp v r
 cases r with
 | tup _ _ vs hs he=>
  refine .tup _ _ _ (by rw [hs,h.get.1]) (fun j y v hy hv=>?_)
  have hj:j<xs.length:=by rw [h.get.1];exact (List.getElem?_eq_some_iff.1 hy).1
  exact h.get.2 j xs[j] y (ze hj) hy _ _ _ (he j xs[j] v (ze hj) hv)
theorem RelL.le {xs ys:List AV} {vs:Array Value} (h:RelL rd mp xs vs) (hl:LeL xs ys):RelL rd mp ys vs:=by
 refine ⟨by rw [h.1,hl.get.1],fun j y v hy hv=>?_⟩
 have hj:j<xs.length:=by rw [hl.get.1];exact (List.getElem?_eq_some_iff.1 hy).1
 exact hl.get.2 j xs[j] y (ze hj) hy _ _ _ (h.2 j xs[j] v (ze hj) hv)
theorem RelL.pure {xs:List AV} {vs:Array Value} (h:RelL rd mp xs vs) (hp:xs.all AV.pure=true) (mp':Mp):RelL rd mp' xs vs:=
 ⟨h.1,fun j x v hx hv=>(h.2 j x v hx hv).pure (List.all_eq_true.1 hp x (zh hx))⟩
theorem qft {E:Env} {dst:Option Nat} (hd:jm E dst=true) {a:Act} (hsz:a.tmps.size=E.fn.ntmps):∀ d,dst=some d→d<a.tmps.size:=by
 intro d hd'
 rw [hd'] at hd
 simp only [jm,xl] at hd
 rw [hsz];exact hd
theorem qhf (sl:List (Nat × AV)) (dst:Option Nat) (v:AV) (st:List (Nat × SO)) (nx:Nat):(ASt.mk (qbj sl dst v) st nx)=(ASt.mk sl st nx).put dst v:=by cases dst <;> rfl
theorem qau {sl:List (Nat × AV)} {E:Env} {B:Nat→ASt→Prop} {f:FuncId} {args:List AV} {dst:Option Nat} {full:Array Oper} {rest:List Oper} {k:List Itm} (hT:∀ t,E.T t=tab E.P t) (n:Nat) {args':List AV} {res:AV} (hc:Con E.P f args' res)
  (hp:args'.all AV.pure=true) (hl:LeL args args') (hd:jm E dst=true) (h:je sl dst (fun sl'=>exec E B n (.ops full rest::k) ⟨sl',st,nx⟩) res):qay E B f args dst full rest k ⟨sl,st,nx⟩:=by
 rw [jd,qhf] at h
 unfold qay
 intro rd mp a w vs hs hrd hsz hargs
 refine (hc rd w vs hs.mem.memR ((hargs.le hl).pure hp _)).mono ?_ (fun _ _ h=>False.elim h)
 rintro v w' ⟨rd',h1,h2,h3,h4,h5⟩
 have hm':=hs.mem.more h5 h2 h3.1 h3.2.1 h4
 exact qbk hT n _ _ h rd' mp _ w' (hs.put h2 (Mp.le.refl _) hm' (h1.mono (Rd.le.refl _) (Mp.none_le _)) (qft hd hsz)) (hrd.step h2 (Mp.le.refl _)) (by rw [qdd];exact hsz)
theorem qcn {sl:List (Nat × AV)} {E:Env} {B:Nat→ASt→Prop} {g:Bool} {f:FuncId} {args:List AV} {dst:Option Nat} {full:Array Oper} {rest:List Oper} {k:List Itm} (hT:∀ t,E.T t=tab E.P t) (n:Nat) {args':List AV} {res:AV} (hc:g=true→Con E.P f args' res)
  (hp:args'.all AV.pure=true) (hl:g=true→LeL args args') (hd:jm E dst=true) (h:je sl dst (fun sl'=>exec E B n (.ops full rest::k) ⟨sl',st,nx⟩) (.cnd g res)):qgj E B g f args dst full rest k ⟨sl,st,nx⟩:=by
 rw [jd,qhf] at h
 unfold qgj
 refine ⟨fun hg=>?_,fun hg rd mp a w hs hrd hsz=>?_⟩
 ·unfold qay
  intro rd mp a w vs hs hrd hsz hargs
  refine (hc hg rd w vs hs.mem.memR ((hargs.le (hl hg)).pure hp _)).mono ?_ (fun _ _ h=>False.elim h)
  rintro v w' ⟨rd',h1,h2,h3,h4,h5⟩
  have hm':=hs.mem.more h5 h2 h3.1 h3.2.1 h4
  exact qbk hT n _ _ h rd' mp _ w' (hs.put h2 (Mp.le.refl _) hm' (.cnd _ _ _ _ (fun _=>h1.mono (Rd.le.refl _) (Mp.none_le _)) (fun hf=>by rw [hg] at hf;cases hf)) (qft hd hsz)) (hrd.step h2 (Mp.le.refl _)) (by rw [qdd];exact hsz)
 ·exact qbk hT n _ _ h rd mp _ w (hs.put (Rd.le.refl _) (Mp.le.refl _) hs.mem (.cnd _ _ _ _ (fun ht=>by rw [hg] at ht;cases ht) (fun _=>rfl)) (qft hd hsz)) hrd (by rw [qdd];exact hsz)
def AV.flat1:AV→Bool
 | .int .. | .bool .. | .str .. | .any | .nils | .nilp=>true
 | _=>false
def AV.flatA:AV→Bool
 | .agg vs=>vs.all AV.flat1
 | x=>x.flat1
def AV.flat:AV→Bool
 | .tup vs=>vs.all AV.flatA
 | x=>x.flatA
theorem Rel.flat1 {rd':Rd} {mp':Mp} {x:AV} {v:Value} (h:Rel rd mp x v) (hf:x.flat1=true):Rel rd' mp' x v:=by
 cases h <;> first
  | (simp [AV.flat1] at hf;done)
  | constructor
theorem Rel.flatA {rd':Rd} {mp':Mp} {x:AV} {v:Value} (h:Rel rd mp x v) (hf:x.flatA=true):Rel rd' mp' x v:=by
 have h':=h
 cases h with
 | agg _ cs vs hs he=>
  refine .agg _ _ _ hs (fun j x v hx hv=>(he j x v hx hv).flat1 ?_)
  simp only [AV.flatA,zs] at hf
  exact hf x (zh hx)
 | _=>exact h'.flat1 hf
theorem Rel.flat {rd':Rd} {mp':Mp} {x:AV} {v:Value} (h:Rel rd mp x v) (hf:x.flat=true):Rel rd' mp' x v:=by
 have h':=h
 cases h with
 | tup _ cs vs hs he=>
  refine .tup _ _ _ hs (fun j x v hx hv=>(he j x v hx hv).flatA ?_)
  simp only [AV.flat,zs] at hf
  exact hf x (zh hx)
 | _=>exact h'.flatA hf
theorem ql {sl:List (Nat × AV)} {E:Env} {B:Nat→ASt→Prop} {f:FuncId} {args:List AV} {dst:Option Nat} {full:Array Oper} {rest:List Oper} {k:List Itm} (hT:∀ t,E.T t=tab E.P t) (n:Nat) {args':List AV} {res:AV} (hc:Con E.P f args' res)
  (hok:allP (qic st) args) (hl:LeL (args.map (frzB st)) args') (hf:res.flat=true) (hd:jm E dst=true) (h:je sl dst (fun sl'=>exec E B n (.ops full rest::k) ⟨sl',st,nx⟩) res):qay E B f args dst full rest k ⟨sl,st,nx⟩:=by
 rw [jd,qhf] at h
 unfold qay
 intro rd mp a w vs hs hrd hsz hargs
 have hargs':RelL (frzRd rd mp st w) Mp.none (args.map (frzB st)) vs:=by
  refine ⟨by rw [hargs.1,zu],fun j x v hx hv=>?_⟩
  rw [zg] at hx
  obtain ⟨y,hy,rfl⟩:=Option.map_eq_some_iff.1 hx
  exact qoh hs.mem y v (qee hok j y hy) (hargs.2 j y v hy hv)
 refine (hc _ w vs (qly hs.mem) (hargs'.le hl)).mono ?_ (fun _ _ h=>False.elim h)
 rintro v w' ⟨rd',h1,h2,h3,h4,h5⟩
 exact qbk hT n _ _ h rd mp _ w' (hs.put (Rd.le.refl _) (Mp.le.refl _) (hs.mem.below h5) (h1.flat hf) (qft hd hsz)) hrd (by rw [qdd];exact hsz)
theorem qp {sl:List (Nat × AV)} {E:Env} {B:Nat→ASt→Prop} {g:Bool} {f:FuncId} {args:List AV} {dst:Option Nat} {full:Array Oper} {rest:List Oper} {k:List Itm} (hT:∀ t,E.T t=tab E.P t) (n:Nat) {args':List AV} {res:AV} (hc:g=true→Con E.P f args' res)
  (hok:g=true→allP (qic st) args) (hl:g=true→LeL (args.map (frzB st)) args') (hf:res.flat=true) (hd:jm E dst=true) (h:je sl dst (fun sl'=>exec E B n (.ops full rest::k) ⟨sl',st,nx⟩) (.cnd g res)):qgj E B g f args dst full rest k ⟨sl,st,nx⟩:=by
 rw [jd,qhf] at h
 unfold qgj
 refine ⟨fun hg=>?_,fun hg rd mp a w hs hrd hsz=>?_⟩
 ·unfold qay
  intro rd mp a w vs hs hrd hsz hargs
  have hargs':RelL (frzRd rd mp st w) Mp.none (args.map (frzB st)) vs:=by
   refine ⟨by rw [hargs.1,zu],fun j x v hx hv=>?_⟩
   rw [zg] at hx
   obtain ⟨y,hy,rfl⟩:=Option.map_eq_some_iff.1 hx
   exact qoh hs.mem y v (qee (hok hg) j y hy) (hargs.2 j y v hy hv)
  refine (hc hg _ w vs (qly hs.mem) (hargs'.le (hl hg))).mono ?_ (fun _ _ h=>False.elim h)
  rintro v w' ⟨rd',h1,h2,h3,h4,h5⟩
  exact qbk hT n _ _ h rd mp _ w' (hs.put (Rd.le.refl _) (Mp.le.refl _) (hs.mem.below h5) (.cnd _ _ _ _ (fun _=>h1.flat hf) (fun hf=>by rw [hg] at hf;cases hf)) (qft hd hsz)) hrd (by rw [qdd];exact hsz)
 ·exact qbk hT n _ _ h rd mp _ w (hs.put (Rd.le.refl _) (Mp.le.refl _) hs.mem (.cnd _ _ _ _ (fun ht=>by rw [hg] at ht;cases ht) (fun _=>rfl)) (qft hd hsz)) hrd (by rw [qdd];exact hsz)
def qch:Nat→List AV→List (Nat × AV)
 | _,[]=>[]
 | i,x::xs=>(i,x)::qch (i+1) xs
theorem jfb (xs:List AV):∀ (i t:Nat),look (qch i xs) t=if i≤t then xs[t - i]? else none:=by
 induction xs with
 | nil=>intro i t;simp [qch,look]
 | cons x xs ih=>
  intro i t
  simp only [qch,qq,ih]
  by_cases h1:i=t
  ·subst h1;simp
  ·by_cases h2:i≤t
   ·rw [za h1,zb (by omega),zb h2,show t - i=(t - (i+1))+1 by omega,zaa]
   ·rw [za h1,za (by omega),za h2]
def conR (res:AV):List (Nat × SO)→Nat→AV→Prop:=fun st _ v=>Ob (qqz st v) (frc (frzV st v) fun v=>Le v res)
theorem qii {fn:Func} {args:List AV} {vs:Array Value} (hn:args.length≤fn.ntmps) (hargs:RelL rd mp args vs) :
  (∀ t,Rel rd mp ((look (qch 0 args) t).getD .any) ((vs++Array.replicate (fn.ntmps - vs.size) undef).getD t undef))∧(vs++Array.replicate (fn.ntmps - vs.size) undef).size=fn.ntmps:=by
 refine ⟨fun t=>?_,by simp [hargs.1];omega⟩
 simp only [jfb,xv,if_true,Nat.sub_zero]
 by_cases ht:t<args.length
 ·have hv:t<vs.size:=by rw [hargs.1];exact ht
  have:(vs++Array.replicate (fn.ntmps - vs.size) undef).getD t undef=vs[t]:=by
   rw [zx,Array.getElem?_append_left hv];simp [hv]
  rw [ze ht,this]
  exact hargs.2 t _ _ (ze ht) (by simp [hv])
 ·rw [zak (by omega)]
  exact .any _ _
theorem jfc {P:Program} {T:Nat→TI} {C:Cfg} {f:FuncId} {fn:Func} {body:Code} {args:List AV} {res:AV} (n:Nat) (hT:∀ t,T t=tab P t) (hf:P.funcs[f]?=some fn) (hb:fn.body=some body)
  (hname : (fn.name == "runtime.NumGoroutine") = false) (hn : Nat.ble args.length fn.ntmps = true)
  (h:∀ (c:Ctx) (rdb:Rd),exec { P:=P,T:=T,C:=C,fn:=fn,c:=c,rdb:=rdb,mpb:=Mp.none,nxb:=0,R:=conR res,X:=fun _ _ _=>False } (fun _ _=>False) n [.code body] ⟨qch 0 args,[],0⟩):Con P f args res:=by
 intro rd w vs hm hargs
 have hn':args.length≤fn.ntmps:=Nat.le_of_ble_eq_true hn
 have hname' : fn.name ≠ "runtime.NumGoroutine" := by simpa using hname
 refine .inl ⟨by simp [callFunc,hf,hname',hb,mark],?_⟩
 let c:Ctx:=⟨w,rd,fun _=>False,stdF⟩
 have hok:=qbk (E:={ P:=P,T:=T,C:=C,fn:=fn,c:=c,rdb:=rd,mpb:=Mp.none,nxb:=0,R:=conR res,X:=fun _ _ _=>False }) (B:=fun _ _=>False) hT n _ _ (h c rd)
 obtain ⟨hsl,hsz⟩:=qii (fn:=fn) hn' hargs
 have hsr:SR c rd Mp.none ⟨qch 0 args,[],0⟩ ⟨vs++Array.replicate (fn.ntmps - vs.size) undef,[]⟩ w:=
  ⟨hsl,rfl,⟨hm.1,hm.2.1,fun g o v h=>.inl h,⟨rfl,rfl,rfl,zi _,fun _ _ _=>rfl⟩,fun b ty cs hx=>by simp [look] at hx,fun r i R hR=>by cases hR <;> simp_all [look],
   fun p q g hp=>by cases p <;> (obtain ⟨_,hx⟩:=hp;first|(obtain ⟨_,hx⟩:=hx;simp [look] at hx;done)|(cases hx <;> simp_all [look])),fun _ _=>⟨rfl,fun _=>rfl⟩,fun i x hx=>by simp [look] at hx,fun r e sz cnt ep len f hx=>by simp [look] at hx,fun r sz ep n f hx=>by simp [look] at hx,⟨hm.2.2,fun _ _ h=>h⟩,Rd.le.refl _⟩⟩
 have hwp:=hok rd Mp.none _ w hsr ⟨Rd.le.refl _,Mp.le.refl _,fun _ _=>⟨rfl,fun _=>rfl⟩,rfl⟩ hsz
 refine (calls_of_wp hf hb hwp).mono fun e w' he=>?_
 match e,he with
 | .returned v,he=>
  obtain ⟨x,rd',mp',st,nx,h1,h2,h3,h4⟩:=he
  have hfin:=Ob.right h1
  rw [ju] at hfin
  refine .inl ⟨v,rfl,frzRd rd' mp' st w',hfin _ _ _ (qru h3 x v (Ob.left h1) h2),h4.rd.trans qct,qly h3,fun g o v hv=>?_,⟨h3.fr.os,h3.fr.tape,h3.fr.output,h3.fr.size,fun k hk=>h3.fr.block k hk (fun h=>h)⟩⟩
  rcases qih hv with hv|⟨_,_,p,hp,hg⟩
  ·rcases h3.rdn g o v hv with h|h|h
   ·exact .inl h
   ·exact .inr h
   ·exact False.elim h
  ·rcases (h3.home hp hg).2.2 with h|h
   ·exact .inr h
   ·exact False.elim h
 | .panicked [⟨v,false,false⟩],he=>obtain ⟨x,rd',mp',st,nx,h1,_⟩:=he;exact False.elim h1
def SubSl (s:ASt):List (Nat × AV)→Prop
 | []=>True
 | (t,x)::r=>Le (s.get t) x∧SubSl s r
def SoLe:SO→SO→Prop
 | .box t cs,.box t' cs'=>t=t'∧LeL cs cs'
 | .row ids e sz ep n f,.row ids' e' sz' ep' n' f'=>(ids=ids'∧e=e'∧sz=sz')∧ep=ep'∧n=n'∧∀ i,i<n→LeL (f i) (f' i)
 | .fam e sz cnt ep len f,.fam e' sz' cnt' ep' len' f'=>(e=e'∧sz=sz')∧cnt=cnt'∧(∀ i,i<cnt→ep i=ep' i∧len i=len' i)∧∀ i k,i<cnt→k<len i→LeL (f i k) (f' i k)
 | .ro sz ep n f,.ro sz' ep' n' f'=>sz=sz'∧ep=ep'∧n=n'∧∀ i,i<n→f i=f' i
 | _,_=>False
def SubSt (st:List (Nat × SO)):List (Nat × SO)→Prop
 | []=>True
 | (i,x)::r=>(match look st i with|some y=>SoLe y x|none=>False)∧SubSt st r
def Sub (s s':ASt):Prop:=SubSl s s'.sl∧SubSt s.st s'.st
def ASt.closed (nxb:Nat) (s:ASt):Bool:=Nat.ble nxb s.nx && (s.sl.all fun p=>p.2.lt s.nx) && stLt s.nx s.st
theorem SubSl.get:∀ {l:List (Nat × AV)},SubSl s l→∀ t,Le (s.get t) ((look l t).getD .any)
 | [],_,t=>Le.any _
 | (k,x)::r,h,t=>by
  rw [qq]
  by_cases hk:k=t
  ·subst hk;rw [zb rfl];exact h.1
  ·rw [za hk];exact SubSl.get h.2 t
theorem SubSt.get:∀ {l:List (Nat × SO)},SubSt st l→∀ i x,look l i=some x→∃ y,look st i=some y∧SoLe y x
 | [],_,i,x,h=>by simp [look] at h
 | (k,z)::r,h,i,x,hl=>by
  rw [qq] at hl
  by_cases hk:k=i
  ·subst hk
   rw [zb rfl] at hl
   cases hl
   have h1:=h.1
   split at h1
   ·rename_i y hy;exact ⟨y,hy,h1⟩
   ·exact absurd h1 id
  ·rw [za hk] at hl;exact SubSt.get h.2 i x hl
theorem MOk.le {r i:Nat} {R R':RowV} (h:MOk c rd mp w r i R) (hids:R.ids=R'.ids) (he:R.e=R'.e) (hsz:R.sz=R'.sz) (hep:R.ep=R'.ep) (hn:R.n=R'.n) (hf:∀ k,k<R.n→LeL (R.f k) (R'.f k)):MOk c rd mp w r i R':=by
 obtain ⟨ids,e,sz,ep,n,f⟩:=R
 obtain ⟨ids',e',sz',ep',n',f'⟩:=R'
 simp only at hids he hsz hep hn hf
 subst hids he hsz hep hn
 obtain ⟨v,xs,h1,h2,h3,h4,h5⟩:=h
 refine ⟨v,xs,h1,h2,fun k hk=>by rw [← (hf k hk).get.1];exact h3 k hk,fun k j y hk hy=>?_,h5⟩
 have hj:j<(f k).length:=by rw [(hf k hk).get.1];exact (List.getElem?_eq_some_iff.1 hy).1
 obtain ⟨u,hu,h1',h2'⟩:=h4 k j _ hk (ze hj)
 exact ⟨u,hu,h1',(hf k hk).get.2 j _ y (ze hj) hy _ _ _ h2'⟩
theorem SubSt.box {l:List (Nat × SO)} (h:SubSt st l) {b:Nat} {ty:TypeId} {cs:List AV} (hl:look l b=some (.box ty cs)):∃ cs',look st b=some (.box ty cs')∧LeL cs' cs:=by
 obtain ⟨y,hy,hle⟩:=h.get b _ hl
 cases y with
 | box t c=>obtain ⟨rfl,hc⟩:=hle;exact ⟨c,hy,hc⟩
 | row=>exact False.elim hle
 | fam=>exact False.elim hle
 | ro=>exact False.elim hle
theorem SubSt.mem {l:List (Nat × SO)} (h:SubSt st l) {r i:Nat} {R:RowV} (hR:IsMem l r i R):∃ R',IsMem st r i R'∧R'.ids=R.ids∧R'.e=R.e∧R'.sz=R.sz∧R'.ep=R.ep∧R'.n=R.n∧∀ k,k<R'.n→LeL (R'.f k) (R.f k):=by
 cases hR with
 | row hl=>
  obtain ⟨y,hy,hle⟩:=h.get _ _ hl
  cases y with
  | box=>exact False.elim hle
  | row ids e sz ep n f=>obtain ⟨⟨rfl,rfl,rfl⟩,rfl,rfl,hf⟩:=hle;exact ⟨_,.row hy,rfl,rfl,rfl,rfl,rfl,hf⟩
  | fam=>exact False.elim hle
  | ro=>exact False.elim hle
 | fam hl hi=>
  obtain ⟨y,hy,hle⟩:=h.get _ _ hl
  cases y with
  | box=>exact False.elim hle
  | row=>exact False.elim hle
  | ro=>exact False.elim hle
  | fam e sz cnt ep len f=>
   obtain ⟨⟨rfl,rfl⟩,rfl,h1,hf⟩:=hle
   exact ⟨_,.fam hy hi,rfl,rfl,rfl,(h1 _ hi).1,(h1 _ hi).2,fun k hk=>hf _ k hi hk⟩
theorem Mem.sub (hm:Mem c rd mp st nx w) (hstd:c.fre=stdF) {st':List (Nat × SO)} {nx':Nat} (hs:SubSt st st') (hn:stLt nx' st'=true):Mem c rd (mp.restrict nx') st' nx' w:=by
 have old:∀ p,There st' p→There st p:=by
  intro p hp
  cases p with
  | bx b=>obtain ⟨ty,cs,hl⟩:=hp;obtain ⟨cs',h,_⟩:=hs.box hl;exact ⟨ty,cs',h⟩
  | rw r i=>obtain ⟨R,hR⟩:=hp;obtain ⟨R',h,_⟩:=hs.mem hR;exact ⟨R',h⟩
 have hbig:Mem c rd mp st' (max nx nx') w:=by
  refine ⟨hm.rdw,hm.rd1,hm.rdn,hm.fr,fun b ty cs hl=>?_,fun r i R hR=>?_,fun p q g hp hq=>hm.inj p q g (old p hp) (old q hq),fun i hi=>hm.fresh i (by rw [hstd] at hi ⊢;simp only [stdF] at hi ⊢;omega),fun i x hx=>?_,fun r e sz cnt ep len f hl i hi=>?_,fun r sz ep n f hl=>?_,hm.tab⟩
  ·obtain ⟨cs',hl',hle⟩:=hs.box hl
   obtain ⟨g,vs,h1,h2,h3,h4,h5,h6⟩:=hm.bx b ty cs' hl'
   refine ⟨g,vs,h1,h2,by rw [h3,hle.get.1],fun j z v hz hv=>?_,h5,h6⟩
   have hj:j<cs'.length:=by rw [hle.get.1];exact (List.getElem?_eq_some_iff.1 hz).1
   exact hle.get.2 j cs'[j] z (ze hj) hz _ _ _ (h4 j cs'[j] v (ze hj) hv)
  ·obtain ⟨R',hR',h1,h2,h3,h4,h5,h6⟩:=hs.mem hR
   exact (hm.mb r i R' hR').le h1 h2 h3 h4 h5 h6
  ·obtain ⟨y,hy,_⟩:=hs.get i x hx
   have:=hm.ids i y hy
   rw [hstd] at this ⊢
   simp only [stdF] at this ⊢
   omega
  ·obtain ⟨y,hy,hle⟩:=hs.get _ _ hl
   cases y with
   | box=>exact False.elim hle
   | row=>exact False.elim hle
   | ro=>exact False.elim hle
   | fam e0 sz0 cnt0 ep0 len0 f0=>
    obtain ⟨_,rfl,_⟩:=hle
    exact hm.out _ _ _ _ _ _ _ hy i hi
  ·obtain ⟨y,hy,hle⟩:=hs.get _ _ hl
   cases y with
   | box=>exact False.elim hle
   | row=>exact False.elim hle
   | fam=>exact False.elim hle
   | ro sz0 ep0 n0 f0=>
    obtain ⟨rfl,rfl,rfl,hf⟩:=hle
    obtain ⟨v,h1,h2⟩:=hm.ro _ _ _ _ _ hy
    exact ⟨v,h1,Le.slc rfl hf _ _ _ h2⟩
 exact hbig.restrict hstd hn
theorem SR.sub {nxb:Nat} {s':ASt} (h:SR c rd mp s a w) (hstd:c.fre=stdF) (hs:Sub s s') (hc:s'.closed nxb=true):SR c rd (mp.restrict s'.nx) s' a w:=by
 simp only [ASt.closed,zf] at hc
 obtain ⟨⟨_,hc1⟩,hc2⟩:=hc
 refine ⟨fun t=>?_,h.defers,h.mem.sub hstd hs.2 hc2⟩
 have hr:=hs.1.get t rd mp _ (h.slots t)
 simp only [ASt.get]
 cases hl:look s'.sl t with
 | none=>exact .any _ _
 | some x=>
  rw [hl] at hr
  exact hr.lt (List.all_eq_true.1 hc1 _ (qdv hl))
theorem Base.sub {E:Env} {s':ASt} (h:Base E rd mp) (hc:s'.closed E.nxb=true):Base E rd (mp.restrict s'.nx):=by
 simp only [ASt.closed,zf,zl] at hc
 exact ⟨h.rd,Mp.le_restrict h.mp (fun i hi=>h.low i (by omega)),h.low,h.std⟩
theorem jfd {P:Program} {o:Oper} {a:Act} {K K':Act→World→Prop} {Q Q':Exit→Act→World→Prop} (hk:∀ a w,K a w→K' a w) (hq:∀ e a w,Q e a w→Q' e a w) (r:Result Next) (h:o.upon P a K Q r):o.upon P a K' Q' r:=by
 unfold Oper.upon at h ⊢
 split at h
 ·exact hk _ _ h
 ·exact hk _ _ h
 ·exact hk _ _ h
 ·refine Calls.mono h fun e w' he=>?_
  cases e with
  | returned v=>exact hk _ _ he
  | panicked ch=>exact hq _ _ _ he
  | outgrown=>obtain ⟨a,w,h⟩:=he;exact ⟨a,w,hq _ _ _ h⟩
 ·exact Rows.mono h fun v w' hv=>hk _ _ hv
 ·exact hq _ _ _ h
 ·exact False.elim h
theorem qma {P:Program} {full:Array Oper} {Q Q':Exit→Act→World→Prop} (hq:∀ e a w,Q e a w→Q' e a w):∀ (l:List Oper) (a:Act) (w:World),wpList P full Q l a w→wpList P full Q' l a w:=by
 intro l
 induction l with
 | nil=>intro a w h;exact hq _ _ _ h
 | cons o l ih=>
  intro a w h
  unfold wpList at h ⊢
  split at h
  ·rename_i hw
   rw [zb hw]
   rcases h with h|⟨h1,a',w',h2⟩
   ·exact .inl (jfd ih hq _ h)
   ·exact .inr ⟨h1,a',w',hq _ _ _ h2⟩
  ·rename_i hw
   rw [za hw]
   exact ih _ _ h
def qhg (m:Nat):List Itm→Bool
 | []=>true
 | .mark n::k=>!Nat.beq n m && qhg m k
 | _::k=>qhg m k
theorem qrv {E:Env} {B B':Nat→ASt→Prop} (lvl:Nat) (hB:∀ n s,n≠lvl→B' n s→B n s):∀ (k:List Itm),qhg lvl k=true→∀ e a w,QK E B' k e a w→QK E B k e a w:=by
 intro k
 induction k with
 | nil=>intro _ e a w h;exact h
 | cons i k ih=>
  intro hm e a w h
  cases i with
  | code x=>
   have ih':=ih hm
   cases e with
   | normal=>simp only [QK] at h ⊢;exact wp_mono h ih'
   | _=>exact ih' _ _ _ h
  | blk id=>
   have ih':=ih hm
   cases e with
   | exit id'=>
    simp only [QK] at h ⊢
    split at h
    ·rename_i he;rw [zb he];exact ih' _ _ _ h
    ·rename_i he;rw [za he];exact ih' _ _ _ h
   | _=>exact ih' _ _ _ h
  | mark n=>
   simp only [qhg,zf,xd] at hm
   have ih':=ih hm.2
   cases e with
   | normal=>
    simp only [QK] at h ⊢
    obtain ⟨h1,rd,mp,s,h2,h3,h4⟩:=h
    exact ⟨h1,rd,mp,s,h2,h3,hB n s (fun e=>by rw [e] at hm;simp at hm) h4⟩
   | _=>exact ih' _ _ _ h
  | ops full l=>
   have ih':=ih hm
   cases e with
   | normal=>simp only [QK] at h ⊢;exact qma ih' _ _ _ h
   | _=>exact ih' _ _ _ h
theorem qmb {E:Env} {B:Nat→ASt→Prop} {body:Code} {k:List Itm} (hT:∀ t,E.T t=tab E.P t) (n lvl:Nat) {G:Type} (I:G→ASt) (φ:G→Prop) (μ:G→Nat) (g0:G) (h0:φ g0) (hsub:Sub s (I g0)) (hcl:∀ g,(I g).closed E.nxb=true)
  (hmk:qhg lvl k=true)
  (round:∀ g,φ g→exec E (fun m s'=>bif Nat.beq m lvl then ∃ g',φ g'∧Sub s' (I g')∧μ g' < μ g else B m s') n (.code body::.mark lvl::k) (I g)):qcf E B body k s:=by
 unfold qcf
 intro rd mp a w hs hrd hsz
 show (Code.loop body).wp E.P (QK E B k) a w
 refine wp_loop_ghost (fun m a w=>a.tmps.size=E.fn.ntmps∧∃ rd mp g,SR E.c rd mp (I g) a w∧Base E rd mp∧φ g∧μ g=m) (μ g0) ⟨hsz,rd,_,g0,hs.sub hrd.std hsub (hcl g0),hrd.sub (hcl g0),h0,rfl⟩ ?_
 rintro m a w ⟨hsz,rd,mp,g,hs,hrd,hφ,rfl⟩
 have hok:=qbk (E:=E) (B:=(fun m s'=>bif Nat.beq m lvl then ∃ g',φ g'∧Sub s' (I g')∧μ g' < μ g else B m s')) hT n _ _ (round g hφ) rd mp a w hs hrd hsz
 refine wp_mono hok fun e a' w' hq=>?_
 have pass:QK E (fun m s'=>bif Nat.beq m lvl then ∃ g',φ g'∧Sub s' (I g')∧μ g' < μ g else B m s') k e a' w'→QK E B k e a' w':=
  qrv (E:=E) (B:=B) (B':=(fun m s'=>bif Nat.beq m lvl then ∃ g',φ g'∧Sub s' (I g')∧μ g' < μ g else B m s')) lvl (fun n s hn hb=>by
   have:Nat.beq n lvl=false:=by
    cases hb':Nat.beq n lvl with
    | false=>rfl
    | true=>exact absurd (zj hb') hn
   simpa [this] using hb) k hmk e a' w'
 cases e with
 | normal=>
  obtain ⟨h1,rd',mp',s',h2,h3,h4⟩:=hq
  simp only [Nat.beq_refl,cond_true] at h4
  obtain ⟨g',hg1,hg2,hg3⟩:=h4
  exact ⟨μ g',hg3,h1,rd',_,g',h2.sub h3.std hg2 (hcl g'),h3.sub (hcl g'),hg1,rfl⟩
 | _=>exact pass hq
theorem Le.rel {x y:AV} (h:Le x y) {rd:Rd} {mp:Mp} {v:Value} (r:Rel rd mp x v):Rel rd mp y v:=h _ _ _ r
attribute [irreducible] Le
end Go.Sx
end
section
namespace Go.Sx
open Go Go.RowKit
structure Stp where
 v:AV
 wr:Bool
 st:List (Nat × SO)
 nx:Nat
 ob:Prop
def qcu (P:Program) (f:FuncId) (args:List AV) (res:AV):Prop:=∃ args',Con P f args' res∧args'.all AV.pure=true∧LeL args args'
def jk (E:Env) (full:Array Oper) (s:ASt) (o:Oper) (res:AV):Option Stp:=
 match jm E o.dst with
 | false=>none
 | true=>
  match o.guard with
  | none=>
   match aop E.T E.C s o.dst o.op with
   | .ok ob v=>some ⟨v,false,s.st,s.nx,obT ob⟩
   | .mem ob v st nx=>some ⟨v,true,st,nx,obT ob⟩
   | .call f args=>some ⟨res,false,s.st,s.nx,qcu E.P f args res⟩
   | .bad=>none
  | some (j,want)=>
   match (qbi full j).map s.get with
   | some x=>
    match qcs want x with
    | some g=>
     match aop E.T E.C s o.dst o.op with
     | .ok ob v=>some ⟨.cnd g (strip s.st v),false,s.st,s.nx,g=true→obT (andO (jh s.st v) ob)⟩
     | .call f args=>some ⟨.cnd g res,false,s.st,s.nx,g=true→qcu E.P f args res⟩
     | _=>none
    | none=>none
   | none=>none
def jg:Op→Bool
 | .call c=>match c.callee with | .value _=>true|_=>false
 | _=>false
def after (s:ASt) (o:Oper) (p:Stp):ASt:=⟨qbj s.sl o.dst p.v,bif p.wr then p.st else s.st,bif p.wr then p.nx else s.nx⟩
def drun (E:Env) (full:Array Oper):List Oper→List AV→ASt→Option (List (Oper × Stp))
 | [],_,_=>some []
 | o::r,cs,s=>
  match jg o.op,cs with
  | true,x::cs=>
   match jk E full s o x with
   | some p=>(drun E full r cs (after s o p)).map ((o,p)::·)
   | none=>none
  | true,[]=>none
  | false,cs=>
   match jk E full s o .any with
   | some p=>(drun E full r cs (after s o p)).map ((o,p)::·)
   | none=>none
def stateAt:List (Oper × Stp)→Nat→(Nat→Bool)→ASt→ASt
 | [],_,_,s=>s
 | (o,p)::r,i,S,s=>stateAt r (i+1) S (bif S i then after s o p else s)
def qjz:List (Oper × Stp)→Prop
 | []=>True
 | (_,p)::r=>p.ob∧qjz r
def reads (full:Array Oper) (o:Oper):List Nat:=
 (o.op.operands.toList.filterMap fun | .tmp t=>some t|_=>none)++(match o.guard with|some (j,_)=>(qbi full j).toList|none=>[])
def anc (full:Array Oper):Nat→Nat→List Nat
 | 0,_=>[]
 | n+1,i=>
  match full.toList[i]? with
  | some o=>(o.after.toList.filter (Region.binds .any)).flatMap fun e=>e.on::anc full n e.on
  | none=>[]
def hits (full:Array Oper) (x y:Oper):Bool:=
 match x.dst with
 | some d=>(reads full y).contains d || y.dst == some d
 | none=>false
def qci (full:Array Oper) (x y:Oper × Stp):Bool:=(x.2.wr || y.2.wr) || (hits full x.1 y.1 || hits full y.1 x.1)
theorem jfe (full:Array Oper) (x y:Oper × Stp):qci full x y=qci full y x:=by
 simp only [qci,Bool.or_comm]
def qij (full:Array Oper) (L:List (Oper × Stp)):Bool:=
 (List.range L.length).all fun j=>
  ((List.range j).all fun i=>(match L[i]?,L[j]? with|some x,some y=>!qci full x y || (anc full L.length j).contains i|_,_=>true)) &&
  (match full.toList[j]? with|some o=>o.after.all fun e=>!Region.binds .any e || Nat.blt e.on j|none=>true)
theorem qoi (s:ASt) (o:Oper) (p:Stp) (t:Nat):(after s o p).get t=if o.dst=some t then p.v else s.get t:=by
 cases hd:o.dst with
 | none=>simp [after,qbj,hd,ASt.get]
 | some d=>
  simp only [after,qbj,hd,ASt.get,qq,Option.some.injEq]
  split <;> rfl
theorem qik (t:Nat):∀ (L:List (Oper × Stp)) (i:Nat) (S S':Nat→Bool) (s s':ASt),s.get t=s'.get t→
  (∀ (j:Nat) x,L[j]?=some x→x.1.dst=some t→S (i+j)=S' (i+j))→(stateAt L i S s).get t=(stateAt L i S' s').get t:=by
 intro L
 induction L with
 | nil=>intro i S S' s s' h _;exact h
 | cons x r ih=>
  intro i S S' s s' h hw
  obtain ⟨o,p⟩:=x
  simp only [stateAt]
  refine ih (i+1) S S' _ _ ?_ (fun j x hx hd=>by have:=hw (j+1) x (by simpa using hx) hd;rwa [show i+(j+1)=i+1+j by omega] at this)
  by_cases hd:o.dst=some t
  ·have h0:=hw 0 (o,p) rfl hd
   simp only [xf] at h0
   rw [h0]
   cases S' i
   ·exact h
   ·simp [qoi,hd]
  ·cases S i <;> cases S' i <;> simp [qoi,hd,h]
theorem qew:∀ (L:List (Oper × Stp)) (i:Nat) (S S':Nat→Bool) (s s':ASt),s.st=s'.st→s.nx=s'.nx→
  (∀ (j:Nat) x,L[j]?=some x→x.2.wr=true→S (i+j)=S' (i+j))→(stateAt L i S s).st=(stateAt L i S' s').st∧(stateAt L i S s).nx=(stateAt L i S' s').nx:=by
 intro L
 induction L with
 | nil=>intro i S S' s s' h h' _;exact ⟨h,h'⟩
 | cons x r ih=>
  intro i S S' s s' h h' hw
  obtain ⟨o,p⟩:=x
  simp only [stateAt]
  refine ih (i+1) S S' _ _ ?_ ?_ (fun j x hx hd=>by have:=hw (j+1) x (by simpa using hx) hd;rwa [show i+(j+1)=i+1+j by omega] at this)
  ·cases hp:p.wr with
   | true=>
    have h0:=hw 0 (o,p) rfl hp
    simp only [xf] at h0
    rw [h0]
    cases S' i
    ·exact h
    ·simp [after,hp]
   | false=>cases S i <;> cases S' i <;> simp [after,hp,h]
  ·cases hp:p.wr with
   | true=>
    have h0:=hw 0 (o,p) rfl hp
    simp only [xf] at h0
    rw [h0]
    cases S' i
    ·exact h'
    ·simp [after,hp]
   | false=>cases S i <;> cases S' i <;> simp [after,hp,h']
theorem jff {E:Env} {full:Array Oper}:∀ (l:List Oper) (cs:List AV) (s:ASt) (L:List (Oper × Stp)),drun E full l cs s=some L→
  L.map (·.1)=l∧∀ (k i:Nat) x,L[i]?=some x→∃ res,jk E full (stateAt L k (fun j=>decide (j<k+i)) s) x.1 res=some x.2:=by
 intro l
 induction l with
 | nil=>
  intro cs s L h
  simp only [drun,Option.some.injEq] at h
  subst h
  exact ⟨rfl,fun k i x hx=>by simp at hx⟩
 | cons o r ih=>
  intro cs s L h
  have key:∀ cs' res p L',jk E full s o res=some p→drun E full r cs' (after s o p)=some L'→L=(o,p)::L'→
    L.map (·.1)=o::r∧∀ (k i:Nat) x,L[i]?=some x→∃ res,jk E full (stateAt L k (fun j=>decide (j<k+i)) s) x.1 res=some x.2:=by
   rintro cs' res p L' hp hL rfl
   obtain ⟨h1,h2⟩:=ih cs' _ L' hL
   refine ⟨by simp [h1],fun k i x hx=>?_⟩
   cases i with
   | zero=>
    simp at hx
    subst hx
    refine ⟨res,?_⟩
    have:∀ (L:List (Oper × Stp)) (k':Nat),k≤k'→∀ s,stateAt L k' (fun j=>decide (j<k+0)) s=s:=by
     intro L
     induction L with
     | nil=>intro k' _ s;rfl
     | cons y L ihL=>
      intro k' hk s
      obtain ⟨o',p'⟩:=y
      simp only [stateAt]
      have:decide (k'<k+0)=false:=by simp;omega
      rw [this]
      exact ihL (k'+1) (by omega) s
    rw [this _ k (zi _)]
    exact hp
   | succ i=>
    simp at hx
    obtain ⟨res',hr⟩:=h2 (k+1) i x hx
    refine ⟨res',?_⟩
    simp only [stateAt]
    have:decide (k<k+(i+1))=true:=by simp
    rw [this]
    simp only [cond_true]
    rw [show k+(i+1)=k+1+i by omega]
    exact hr
  simp only [drun] at h
  split at h
  ·split at h
   ·rename_i p hp
    obtain ⟨L',hL',rfl⟩:=Option.map_eq_some_iff.1 h
    exact key _ _ p L' hp hL' rfl
   ·cases h
  ·cases h
  ·split at h
   ·rename_i p hp
    obtain ⟨L',hL',rfl⟩:=Option.map_eq_some_iff.1 h
    exact key _ _ p L' hp hL' rfl
   ·cases h
theorem qka {T:Nat→TI} {C:Cfg} {s s':ASt} (d:Option Nat) (op:Op) (h:∀ x∈op.operands,ev s x=ev s' x) (hst:s.st=s'.st) (hnx:s.nx=s'.nx):aop T C s d op=aop T C s' d op:=by
 obtain ⟨sl,st,nx⟩:=s
 obtain ⟨sl',st',nx'⟩:=s'
 simp only at hst hnx
 subst hst hnx
 cases op with
 | move x=>simp only [aop];rw [h x (by simp [Op.operands])]
 | assign x=>simp only [aop];rw [h x (by simp [Op.operands])];rfl
 | pick x y z=>
  have hx:=h x (by simp [Op.operands])
  have hy:=h y (by simp [Op.operands])
  have hz:=h z (by simp [Op.operands])
  simp only [aop,hx,hy,hz]
 | alloc e=>rfl
 | box e x=>simp only [aop];rw [h x (by simp [Op.operands])];rfl
 | build t ps=>
  have hm:∀ p∈ps.toList,ev ⟨sl,st,nx⟩ p.2=ev ⟨sl',st,nx⟩ p.2:=fun p hp=>h p.2 (by simp only [Op.operands];simp;exact ⟨p.1,by simpa using hp⟩)
  have e1:(ps.toList.map fun p=>ev ⟨sl,st,nx⟩ p.2)=ps.toList.map fun p=>ev ⟨sl',st,nx⟩ p.2:=xg hm
  have e2:(ps.toList.map fun p=>(p.1,strip st (ev ⟨sl,st,nx⟩ p.2)))=ps.toList.map fun p=>(p.1,strip st (ev ⟨sl',st,nx⟩ p.2)):=xg fun p hp=>by rw [hm p hp]
  simp only [aop,e1,e2]
 | buildSlice t n ps=>
  have hm:∀ p∈ps.toList,ev ⟨sl,st,nx⟩ p.2=ev ⟨sl',st,nx⟩ p.2:=fun p hp=>h p.2 (by simp only [Op.operands];simp;exact ⟨p.1,by simpa using hp⟩)
  have e1:(ps.toList.map fun p=>ev ⟨sl,st,nx⟩ p.2)=ps.toList.map fun p=>ev ⟨sl',st,nx⟩ p.2:=xg hm
  have e2:(ps.toList.map fun p=>(p.1,strip st (ev ⟨sl,st,nx⟩ p.2)))=ps.toList.map fun p=>(p.1,strip st (ev ⟨sl',st,nx⟩ p.2)):=xg fun p hp=>by rw [hm p hp]
  simp only [aop,e1,e2]
  rfl
 | load t x=>simp only [aop];rw [h x (by simp [Op.operands])]
 | store t x y=>simp only [aop];rw [h x (by simp [Op.operands]),h y (by simp [Op.operands])]
 | nilCheck x=>simp only [aop];rw [h x (by simp [Op.operands])]
 | binOp op t x y yt=>simp only [aop];rw [h x (by simp [Op.operands]),h y (by simp [Op.operands])]
 | unOp op t x=>simp only [aop];rw [h x (by simp [Op.operands])]
 | convert src t x=>simp only [aop];rw [h x (by simp [Op.operands])]
 | makeFunc fn first captured=>
  simp only [aop]
  rw [xg fun x hx=>h x (by simp only [Op.operands];simp;right;simpa using hx)]
 | makeSlice t x y=>simp only [aop];rw [h x (by simp [Op.operands]),h y (by simp [Op.operands])];rfl
 | slice t x lo hi mx=>
  simp only [aop]
  rw [h x (by simp [Op.operands])]
  have e1:∀ y∈lo,ev ⟨sl,st,nx⟩ y=ev ⟨sl',st,nx⟩ y:=fun y hy=>h y (by cases lo <;> simp at hy;subst hy;simp [Op.operands])
  have e2:∀ y∈hi,ev ⟨sl,st,nx⟩ y=ev ⟨sl',st,nx⟩ y:=fun y hy=>h y (by cases hi <;> simp at hy;subst hy;simp [Op.operands])
  have e3:∀ y∈mx,ev ⟨sl,st,nx⟩ y=ev ⟨sl',st,nx⟩ y:=fun y hy=>h y (by cases mx <;> simp at hy;subst hy;simp [Op.operands])
  have f:∀ (l:Option Operand),(∀ y∈l,ev ⟨sl,st,nx⟩ y=ev ⟨sl',st,nx⟩ y)→l.map (ev ⟨sl,st,nx⟩)=l.map (ev ⟨sl',st,nx⟩)∧(l.map fun y=>strip st (ev ⟨sl,st,nx⟩ y))=l.map fun y=>strip st (ev ⟨sl',st,nx⟩ y):=by
   intro l hl
   cases l with
   | none=>exact ⟨rfl,rfl⟩
   | some y=>simp [hl y (by simp)]
  rw [(f lo e1).1,(f lo e1).2,(f hi e2).1,(f hi e2).2,(f mx e3).2]
  rfl
 | fieldAddr t x i=>simp only [aop];rw [h x (by simp [Op.operands])]
 | field t x i=>simp only [aop];rw [h x (by simp [Op.operands])]
 | indexAddr t x i=>simp only [aop];rw [h x (by simp [Op.operands]),h i (by simp [Op.operands])]
 | index t x i=>simp only [aop];rw [h x (by simp [Op.operands]),h i (by simp [Op.operands])]
 | extract x i=>simp only [aop];rw [h x (by simp [Op.operands])]
 | call cl=>
  obtain ⟨callee,⟨args⟩,ats⟩:=cl
  have ha:∀ x∈args,ev ⟨sl,st,nx⟩ x=ev ⟨sl',st,nx⟩ x:=fun x hx=>h x (by simp only [Op.operands,Call.operands];simp;exact .inr hx)
  have hm:args.map (ev ⟨sl,st,nx⟩)=args.map (ev ⟨sl',st,nx⟩):=xg ha
  simp only [aop]
  cases callee with
  | builtin b=>
   have hm2:(args.map fun x=>strip st (ev ⟨sl,st,nx⟩ x))=args.map fun x=>strip st (ev ⟨sl',st,nx⟩ x):=xg fun x hx=>by rw [ha x hx]
   simp only [hm,hm2]
   rfl
  | value f=>
   simp only [hm]
   rw [h f (by simp [Op.operands,Call.operands])]
  | invoke r m=>rfl
 | _=>rfl
theorem qkb {full:Array Oper} {s s':ASt} {o:Oper} (h:∀ t∈reads full o,s.get t=s'.get t):∀ x∈o.op.operands,ev s x=ev s' x:=by
 intro x hx
 cases x with
 | tmp t=>exact h t (by simp only [reads,zaj,List.mem_filterMap];left;exact ⟨.tmp t,by simpa using hx,rfl⟩)
 | _=>rfl
theorem qwo {E:Env} {full:Array Oper} {s s':ASt} {o:Oper} (res:AV) (h:∀ t∈reads full o,s.get t=s'.get t) (hst:s.st=s'.st) (hnx:s.nx=s'.nx):jk E full s o res=jk E full s' o res:=by
 unfold jk
 rw [qka o.dst o.op (qkb h) hst hnx,hst,hnx]
 cases hg:o.guard with
 | none=>rfl
 | some jw=>
  obtain ⟨j,want⟩:=jw
  cases hs:qbi full j with
  | none=>simp only [hs];rfl
  | some d=>
   have:s.get d=s'.get d:=h d (by simp [reads,hg,hs])
   simp only [hs,xe,this]
theorem qrw {E:Env} (hT:∀ t,E.T t=tab E.P t) {full:Array Oper} {s:ASt} {o:Oper} {res:AV} {p:Stp} (hp:jk E full s o res=some p) (hob:p.ob) {rd:Rd} {mp:Mp} {a:Act} {w:World} (hs:SR E.c rd mp s a w) (hsup:Sup E.c s.nx) (hsz:a.tmps.size=E.fn.ntmps)
  {K:Act→World→Prop} {Q:Exit→Act→World→Prop} (hK:∀ x w' rd' mp',Rd.le rd rd'→Mp.le mp mp'→Mem E.c rd' mp' (bif p.wr then p.st else s.st) (bif p.wr then p.nx else s.nx) w'→Rel rd' mp' p.v x→(∀ d,o.dst=some d→d<a.tmps.size)→K (a.put o.dst x) w') :
  if Region.wanted o (yielded full a.tmps) then o.wp E.P a w K Q∨(o.asks E.P a w∧LetsOut Q) else K (a.put o.dst undef) w:=by
 unfold jk at hp
 cases hd:jm E o.dst with
 | false=>rw [hd] at hp;cases hp
 | true=>
  rw [hd] at hp
  simp only at hp
  have hdst:∀ d,o.dst=some d→d<a.tmps.size:=by
   intro d hd'
   rw [hd'] at hd
   simp only [jm,xl] at hd
   rw [hsz]
   exact hd
  have hgood:=qjx (C:=E.C) hT hs hsup o
  have callK:∀ {f args res},qcu E.P f args res→aop E.T E.C s o.dst o.op=.call f args→(∀ x w' rd',Rd.le rd rd'→Mem E.c rd' mp s.st s.nx w'→Rel rd' mp res x→K (a.put o.dst x) w')→o.wp E.P a w K Q:=by
   rintro f args res ⟨args',hc,hpure,hle⟩ hr hK'
   rw [hr] at hgood
   obtain ⟨vs,g1,g2⟩:=hgood
   have hcon:=hc rd w vs hs.mem.memR ((g2.le hle).pure hpure _)
   have step:∀ v w',(∃ rd',Rel rd' Mp.none res v∧Rd.le rd rd'∧MemR rd' w'∧(∀ g o v,rd' g o=some v→rd g o=some v∨w.heap.size≤g)∧Below w.heap.size w w')→K (a.put o.dst v) w':=by
    rintro v w' ⟨rd',h1,h2,h3,h4,h5⟩
    exact hK' v w' rd' h2 (hs.mem.more h5 h2 h3.1 h3.2.1 h4) (h1.mono (Rd.le.refl _) (Mp.none_le _))
   unfold Oper.wp
   rw [g1]
   rcases hcon with ⟨h1,h2⟩|⟨v,w',h1,h2⟩
   ·rw [h1,Oper.upon_enter]
    refine h2.mono fun e w' he=>?_
    rcases he with ⟨v,he,hv⟩|⟨_,_,hv⟩
    ·subst he;exact step v w' hv
    ·exact False.elim hv
   ·rw [h1,Oper.upon_value]
    exact step v w' h2
  cases hg:o.guard with
  | none=>
   rw [hg] at hp
   simp only at hp
   rw [zb (by simp [Region.wanted,hg])]
   left
   cases hr:aop E.T E.C s o.dst o.op with
   | ok ob v=>
    rw [hr] at hp hgood
    cases hp
    obtain ⟨x,w',rd',g1,g2,g3,g4⟩:=hgood hob
    unfold Oper.wp
    rw [g1,Oper.upon_value]
    exact hK x w' rd' mp g2 (Mp.le.refl _) g3 g4 hdst
   | mem ob v st' nx'=>
    rw [hr] at hp hgood
    cases hp
    obtain ⟨nn,x,w',rd',mp',g1,g2,g3,g4,g5,g6⟩:=hgood hob
    unfold Oper.wp
    rw [g1]
    rcases g2 with rfl|⟨rfl,rfl⟩
    ·rw [Oper.upon_value];exact hK x w' rd' mp' g3 g4 g5 g6 hdst
    ·rw [Oper.upon_skip];exact hK undef w' rd' mp' g3 g4 g5 g6 hdst
   | call f args=>
    rw [hr] at hp
    cases hp
    exact callK hob hr (fun x w' rd' h1 h2 h3=>hK x w' rd' mp h1 (Mp.le.refl _) h2 h3 hdst)
   | bad=>rw [hr] at hp;cases hp
  | some jw=>
   obtain ⟨j,want⟩:=jw
   rw [hg] at hp
   simp only at hp
   cases hsl:qbi full j with
   | none=>rw [hsl] at hp;cases hp
   | some d=>
    rw [hsl] at hp
    simp only [xe] at hp
    cases hgb:qcs want (s.get d) with
    | none=>rw [hgb] at hp;cases hp
    | some g=>
     rw [hgb] at hp
     simp only at hp
     have hwant:=qrs hs hsl hgb o hg
     rw [hwant]
     cases hr:aop E.T E.C s o.dst o.op with
     | ok ob v=>
      rw [hr] at hp hgood
      cases hp
      cases g with
      | false=>exact hK undef w rd mp (Rd.le.refl _) (Mp.le.refl _) hs.mem (.cnd _ _ _ _ (fun h=>by cases h) (fun _=>rfl)) hdst
      | true=>
       obtain ⟨hob1,hob2⟩:=(jq _ _).1 (hob rfl)
       obtain ⟨x,w',rd',g1,g2,g3,g4⟩:=hgood hob2
       left
       unfold Oper.wp
       rw [g1,Oper.upon_value]
       exact hK x w' rd' mp g2 (Mp.le.refl _) g3 (.cnd _ _ _ _ (fun _=>qfq g3 g4 hob1) (fun h=>by cases h)) hdst
     | call f args=>
      rw [hr] at hp
      cases hp
      cases g with
      | false=>exact hK undef w rd mp (Rd.le.refl _) (Mp.le.refl _) hs.mem (.cnd _ _ _ _ (fun h=>by cases h) (fun _=>rfl)) hdst
      | true=>
       left
       exact callK (hob rfl) hr (fun x w' rd' h1 h2 h3=>hK x w' rd' mp h1 (Mp.le.refl _) h2 (.cnd _ _ _ _ (fun _=>h3) (fun h=>by cases h)) hdst)
     | mem ob v st' nx'=>rw [hr] at hp;cases hp
     | bad=>rw [hr] at hp;cases hp
theorem qwp:∀ {L:List (Oper × Stp)},qjz L→∀ (i:Nat) x,L[i]?=some x→x.2.ob
 | [],_,i,x,h=>by simp at h
 | (o,p)::r,h,i,x,hx=>by
  cases i with
  | zero=>simp at hx;subst hx;exact h.1
  | succ i=>simp at hx;exact qwp h.2 i x hx
theorem qhh (full:Array Oper) (S:Nat→Bool) (hS:∀ j o,full.toList[j]?=some o→S j=true→∀ e∈o.after,Region.binds .any e=true→S e.on=true) :
  ∀ (n j:Nat),(∀ o,full.toList[j]?=some o→∀ e∈o.after,Region.binds .any e=true→S e.on=true)→∀ i∈anc full n j,S i=true:=by
 intro n
 induction n with
 | zero=>intro j _ i hi;simp [anc] at hi
 | succ n ih=>
  intro j hj i hi
  simp only [anc] at hi
  split at hi
  ·rename_i o ho
   simp only [List.mem_flatMap,List.mem_filter,List.mem_cons] at hi
   obtain ⟨e,⟨he,hb⟩,hi⟩:=hi
   have hon:=hj o ho e (by simpa using he) hb
   rcases hi with rfl|hi
   ·exact hon
   ·exact ih e.on (fun o' ho' e' he' hb'=>hS e.on o' ho' hon e' he' hb') i hi
  ·simp at hi
theorem qwq {full:Array Oper} {L:List (Oper × Stp)} (h:qij full L=true) {i j:Nat} {x y:Oper × Stp} (hij:i<j) (hx:L[i]?=some x) (hy:L[j]?=some y) (hc:qci full x y=true):i∈anc full L.length j:=by
 have hj:j<L.length:=(List.getElem?_eq_some_iff.1 hy).1
 have h1:=List.all_eq_true.1 h j (List.mem_range.2 hj)
 simp only [zf] at h1
 have h2:=List.all_eq_true.1 h1.1 i (List.mem_range.2 hij)
 rw [hx,hy] at h2
 simp only [hc,xx,xq] at h2
 simpa using h2
theorem jfg {full:Array Oper} {L:List (Oper × Stp)} (h:qij full L=true) {j:Nat} (hj:j<L.length) {o:Oper} (ho:full.toList[j]?=some o):∀ e∈o.after,Region.binds .any e=true→e.on<j:=by
 have h1:=List.all_eq_true.1 h j (List.mem_range.2 hj)
 simp only [zf,ho] at h1
 intro e he hb
 have:=(Array.all_eq_true_iff_forall_mem.1 h1.2) e he
 simp only [hb,xx,xq,xl] at this
 exact this
theorem jfh {E:Env} {B:Nat→ASt→Prop} (hT:∀ t,E.T t=tab E.P t) {ops:Array Oper} {k:List Itm} {s:ASt} {L:List (Oper × Stp)} (hLo:L.map (·.1)=ops.toList)
  (hst:∀ (i:Nat) x,L[i]?=some x→∃ res,jk E ops (stateAt L 0 (fun j=>decide (j<i)) s) x.1 res=some x.2)
  (hord:qij ops L=true) (hob:qjz L) (hfin:Ok E B k (stateAt L 0 (fun _=>true) s)) :
  ∀ (fuel:Nat) (listed:Array Bool) (a:Act) (w:World),listed.size=ops.size→listed.count false≤fuel→
   (∀ j o,ops.toList[j]?=some o→listed.getD j false=true→∀ e∈o.after,Region.binds .any e=true→listed.getD e.on false=true)→
   a.tmps.size=E.fn.ntmps→(∃ rd mp,SR E.c rd mp (stateAt L 0 (fun i=>listed.getD i false) s) a w∧Base E rd mp)→wpAny E.P .any ops (QK E B k) fuel listed a w:=by
 have hlen:L.length=ops.size:=by have:=congrArg List.length hLo;simpa using this
 have done:∀ (listed:Array Bool) (a:Act) (w:World),listed.size=ops.size→(∀ i,i<ops.size→listed.getD i false=true)→a.tmps.size=E.fn.ntmps→
   (∃ rd mp,SR E.c rd mp (stateAt L 0 (fun i=>listed.getD i false) s) a w∧Base E rd mp)→QK E B k .normal a w:=by
  rintro listed a w _ hall hsz ⟨rd,mp,hs,hrd⟩
  have heq:∀ (L':List (Oper × Stp)) (i:Nat) (S S':Nat→Bool) (s:ASt),(∀ j,j<L'.length→S (i+j)=S' (i+j))→stateAt L' i S s=stateAt L' i S' s:=by
   intro L'
   induction L' with
   | nil=>intro i S S' s _;rfl
   | cons y L' ih=>
    intro i S S' s h
    obtain ⟨o,p⟩:=y
    simp only [stateAt]
    have h0:=h 0 (by simp)
    simp only [xf] at h0
    rw [h0]
    exact ih (i+1) S S' _ (fun j hj=>by have:=h (j+1) (by simp;omega);rwa [show i+(j+1)=i+1+j by omega] at this)
  rw [heq L 0 _ (fun _=>true) s (fun j hj=>by rw [zn];exact hall j (by omega))] at hs
  exact hfin rd mp a w hs hrd hsz
 have full_of_ready:∀ (listed:Array Bool),listed.size=ops.size→Region.ready .any ops listed=[]→∀ i,i<ops.size→listed.getD i false=true:=by
  intro listed hls hr i
  induction i using Nat.strongRecOn with
  | _ i ih=>
   intro hi
   cases hl:listed.getD i false with
   | true=>rfl
   | false=>
    exfalso
    have hmem:i∈Region.ready .any ops listed:=by
     rw [mem_ready]
     refine ⟨by simp [hls,hi] at hl ⊢;exact hl,ops[i],by simp [hi],fun e he hb=>?_⟩
     have:=jfg hord (j:=i) (by omega) (o:=ops[i]) (by simp [hi]) e he hb
     exact ih e.on this (by omega)
    rw [hr] at hmem
    simp at hmem
 intro fuel
 induction fuel with
 | zero=>
  intro listed a w hls hcnt hcl hsz hs
  have hall:∀ i,i<ops.size→listed.getD i false=true:=by
   intro i hi
   cases hl:listed.getD i false with
   | true=>rfl
   | false=>
    exfalso
    have hi':i<listed.size:=by omega
    have:false∈listed:=by
     have h2:listed[i]=false:=by simpa [hi'] using hl
     rw [← h2];exact Array.getElem_mem hi'
    have:=Array.count_pos_iff.2 this
    omega
  refine ⟨?_,done listed a w hls hall hsz hs⟩
  cases hr:Region.ready .any ops listed with
  | nil=>rfl
  | cons i r=>
   exfalso
   have hmem:i∈Region.ready .any ops listed:=by rw [hr];simp
   rw [mem_ready] at hmem
   obtain ⟨h0,o,ho,_⟩:=hmem
   have hi:i<ops.size:=(Array.getElem?_eq_some_iff.1 ho).1
   have:=hall i hi
   have hi':i<listed.size:=by omega
   simp [hi'] at h0 this
   rw [h0] at this
   cases this
 | succ fuel ih=>
  intro listed a w hls hcnt hcl hsz hs
  refine ⟨fun hr=>done listed a w hls (full_of_ready listed hls hr) hsz hs,fun i hi=>?_⟩
  rw [mem_ready] at hi
  obtain ⟨h0,o,ho,hedges⟩:=hi
  have hin:i<ops.size:=(Array.getElem?_eq_some_iff.1 ho).1
  have hil:i<listed.size:=by omega
  have hli:listed.getD i false=false:=by simp [hil] at h0 ⊢;exact h0
  have hol:ops.toList[i]?=some o:=by simpa using ho
  obtain ⟨rd,mp,hs,hrd⟩:=hs
  obtain ⟨p,hp⟩:∃ p,L[i]?=some (o,p):=by
   have hi':i<L.length:=by omega
   refine ⟨L[i].2,?_⟩
   have:(L.map (·.1))[i]?=some o:=by rw [hLo];exact hol
   rw [zg,ze hi'] at this
   simp at this
   rw [ze hi',← this]
  obtain ⟨res,hstep⟩:=hst i (o,p) hp
  -- what is ahead is done, what is behind is not
  have hanc:∀ j∈anc ops L.length i,listed.getD j false=true:=qhh ops _ hcl _ i (fun o' ho'=>by rw [hol] at ho';cases ho';exact hedges)
  have hbeh:∀ j,i∈anc ops L.length j→j<ops.size→listed.getD j false=false:=by
   intro j hj hjs
   cases hl:listed.getD j false with
   | false=>rfl
   | true=>
    exfalso
    have:=qhh ops _ hcl L.length j (fun o' ho'=>hcl j o' ho' hl) i hj
    rw [hli] at this
    cases this
  have agree:∀ (j:Nat) x,L[j]?=some x→(qci ops x (o,p)=true∨qci ops (o,p) x=true)→(fun q=>listed.getD q false) j=decide (j<i):=by
   intro j x hx hc
   have hj:j<ops.size:=by rw [← hlen];exact (List.getElem?_eq_some_iff.1 hx).1
   have hsym:qci ops x (o,p)=qci ops (o,p) x:=jfe _ _ _
   have hc1:qci ops x (o,p)=true:=by rcases hc with h|h;exact h;rw [hsym];exact h
   have hc2:qci ops (o,p) x=true:=by rw [← hsym];exact hc1
   rcases zap j i with h|h|h
   ·simp only [h,decide_true];exact hanc j (qwq hord h hx hp hc1)
   ·subst h;simp only [Nat.lt_irrefl,decide_false];exact hli
   ·have:¬ j<i:=by omega
    simp only [this,decide_false]
    exact hbeh j (qwq hord h hp hx hc2) hj
  have hclr:∀ (j:Nat) x t,L[j]?=some x→x.1.dst=some t→t∈reads ops o→qci ops x (o,p)=true:=by
   intro j x t _ hd ht
   have:hits ops x.1 o=true:=by simp [hits,hd,ht]
   simp [qci,this]
  have hcld:∀ (j:Nat) x t,L[j]?=some x→x.1.dst=some t→o.dst=some t→qci ops x (o,p)=true:=by
   intro j x t _ hd ht
   have:hits ops x.1 o=true:=by simp [hits,hd,ht]
   simp [qci,this]
  have hclm:∀ (j:Nat) (x:Oper × Stp),L[j]?=some x→x.2.wr=true→qci ops x (o,p)=true:=by
   intro j x _ hw
   simp [qci,hw]
  have hclp:∀ (j:Nat) (x:Oper × Stp),L[j]?=some x→p.wr=true→qci ops x (o,p)=true:=by
   intro j x _ hw
   simp [qci,hw]
  have hmem0:=qew L 0 (fun q=>listed.getD q false) (fun j=>decide (j<i)) s s rfl rfl (fun j x hx hw=>by rw [zn];exact agree j x hx (.inl (hclm j x hx hw)))
  have hstep':jk E ops (stateAt L 0 (fun q=>listed.getD q false) s) o res=some p:=by
   rw [← hstep]
   refine qwo res (fun t ht=>?_) hmem0.1 hmem0.2
   exact qik t L 0 _ _ s s rfl (fun j x hx hd=>by rw [zn];exact agree j x hx (.inl (hclr j x t hx hd ht)))
  have hsucc:∀ (L':List (Oper × Stp)) (k' i':Nat) (s':ASt),L'[i']?=some (o,p)→stateAt L' k' (fun j=>decide (j<k'+i'+1)) s'=after (stateAt L' k' (fun j=>decide (j<k'+i')) s') o p:=by
   intro L'
   induction L' with
   | nil=>intro k' i' s' h;simp at h
   | cons y L' ihL=>
    intro k' i' s' h
    obtain ⟨o',p'⟩:=y
    have none_:∀ (M:List (Oper × Stp)) (m b:Nat),b≤m→∀ s,stateAt M m (fun j=>decide (j<b)) s=s:=by
     intro M
     induction M with
     | nil=>intro m b _ s;rfl
     | cons y M ihM=>
      intro m b hb s
      obtain ⟨o'',p''⟩:=y
      simp only [stateAt]
      have:decide (m<b)=false:=by simp;omega
      rw [this]
      exact ihM (m+1) b (by omega) s
    cases i' with
    | zero=>
     simp at h
     obtain ⟨rfl,rfl⟩:=h
     simp only [stateAt]
     have e1:decide (k'<k'+0+1)=true:=by simp
     have e2:decide (k'<k'+0)=false:=by simp
     rw [e1,e2]
     simp only [cond_true,cond_false]
     rw [none_ L' (k'+1) (k'+0+1) (by omega),none_ L' (k'+1) (k'+0) (by omega)]
    | succ i'=>
     simp at h
     simp only [stateAt]
     have e1:decide (k'<k'+(i'+1)+1)=true:=by simp;omega
     have e2:decide (k'<k'+(i'+1))=true:=by simp
     rw [e1,e2]
     simp only [cond_true]
     have:=ihL (k'+1) i' (after s' o' p') h
     rw [show k'+1+i'+1=k'+(i'+1)+1 by omega,show k'+1+i'=k'+(i'+1) by omega] at this
     exact this
  have hsi:=hsucc L 0 i s hp
  simp only [zn] at hsi
  have hS':∀ j,j≠i→(listed.setIfInBounds i true).getD j false=listed.getD j false:=fun j hj=>getD_set_ne false (Ne.symm hj)
  have hS'i:(listed.setIfInBounds i true).getD i false=true:=by simp [hil]
  have agree':∀ (j:Nat) x,L[j]?=some x→qci ops x (o,p)=true→(listed.setIfInBounds i true).getD j false=decide (j<i+1):=by
   intro j x hx hc
   by_cases hji:j=i
   ·subst hji;rw [hS'i];simp
   ·rw [hS' j hji]
    have:=agree j x hx (.inl hc)
    simp only at this
    rw [this]
    have:(j<i)↔(j<i+1):=by omega
    simp [this]
  unfold wpOp
  rw [ho]
  refine qrw hT hstep' (qwp hob i _ hp) hs (.std hrd.std _) hsz (fun x w' rd' mp' hr hm hmem hrel hdst=>?_)
  refine ih (listed.setIfInBounds i true) _ w' (by simpa using hls) ?_ ?_ (by rw [qdd];exact hsz) ⟨rd',mp',⟨fun t=>?_,?_,?_⟩,hrd.step hr hm⟩
  ·have hl2:listed[i]=false:=by simpa [hil] using hli
   have hc:=Array.count_set (xs:=listed) (i:=i) (a:=true) (b:=false) hil
   rw [Array.setIfInBounds,dif_pos hil,hc,hl2]
   have:0<listed.count false:=Array.count_pos_iff.2 (by rw [← hl2];exact Array.getElem_mem hil)
   simp
   omega
  ·intro j o' ho' hj e he hb
   by_cases hji:j=i
   ·subst hji
    rw [hol] at ho';cases ho'
    exact getD_set_true (hedges e he hb)
   ·rw [hS' j hji] at hj
    exact getD_set_true (hcl j o' ho' hj e he hb)
  ·by_cases hd:o.dst=some t
   ·have hlt:=hdst t hd
    have hget:(stateAt L 0 (fun q=>(listed.setIfInBounds i true).getD q false) s).get t=p.v:=by
     rw [qik t L 0 _ (fun j=>decide (j<i+1)) s s rfl (fun j x hx hdx=>by rw [zn];exact agree' j x hx (hcld j x t hx hdx hd)),hsi,qoi,zb hd]
    rw [hget]
    have:(a.put o.dst x).tmps.getD t undef=x:=by rw [hd];simp [Act.put,hlt]
    rw [this]
    exact hrel
   ·have hget:(stateAt L 0 (fun q=>(listed.setIfInBounds i true).getD q false) s).get t=(stateAt L 0 (fun q=>listed.getD q false) s).get t:=by
     refine qik t L 0 _ _ s s rfl (fun j x hx hdx=>?_)
     rw [zn]
     refine hS' j (fun e=>?_)
     subst e
     rw [hp] at hx;cases hx
     exact hd hdx
    rw [hget]
    have:(a.put o.dst x).tmps.getD t undef=a.tmps.getD t undef:=by
     cases hdd:o.dst with
     | none=>rfl
     | some d=>
      simp only [Act.put,zx]
      rw [xi (fun e=>hd (by rw [hdd,e]))]
    rw [this]
    exact (hs.slots t).mono hr hm
  ·cases o.dst <;> exact hs.defers
  ·cases hw:p.wr with
   | true=>
    have hmm:=qew L 0 (fun q=>(listed.setIfInBounds i true).getD q false) (fun j=>decide (j<i+1)) s s rfl rfl (fun j x hx hwx=>by rw [zn];exact agree' j x hx (hclm j x hx hwx))
    rw [hmm.1,hmm.2,hsi]
    simp only [hw,cond_true] at hmem
    simpa [after,hw] using hmem
   | false=>
    have hmm:=qew L 0 (fun q=>(listed.setIfInBounds i true).getD q false) (fun q=>listed.getD q false) s s rfl rfl (fun j x hx hwx=>by
     rw [zn]
     refine hS' j (fun e=>?_)
     subst e
     rw [hp] at hx;cases hx
     rw [hw] at hwx;cases hwx)
    rw [hmm.1,hmm.2]
    simpa [hw] using hmem
theorem qeg (n j:Nat):(Array.replicate n false).getD j false=false:=by
 rw [zx,Array.getElem?_replicate]
 split <;> rfl
theorem jfi {E:Env} {B:Nat→ASt→Prop} {id:Nat} {ops:Array Oper} {k:List Itm} {s:ASt} (hT:∀ t,E.T t=tab E.P t) (hmix:E.P.follows .mixedOrders=true) (n:Nat) (cs:List AV) {L:List (Oper × Stp)} (hL:drun E ops ops.toList cs s=some L)
  (hord:qij ops L=true) (hob:qjz L) (h:exec E B n k (stateAt L 0 (fun _=>true) s)):qby E B id ops k s:=by
 unfold qby
 intro rd mp a w hs hrd hsz
 show (Code.region id ops true).wp E.P (QK E B k) a w
 obtain ⟨h1,h2⟩:=jff _ _ _ _ hL
 refine wp_region_any hmix (jfh hT h1 (fun i x hx=>by have:=h2 0 i x hx;simpa using this) hord hob (qbk hT n _ _ h) _ _ a _ (by simp) (by simp) (fun j o _ hj=>?_) hsz ⟨rd,mp,?_,hrd⟩)
 ·rw [qeg] at hj
  cases hj
 ·have hz:∀ (L:List (Oper × Stp)) (i:Nat) (s:ASt),stateAt L i (fun i=>(Array.replicate ops.size false).getD i false) s=s:=by
   intro L
   induction L with
   | nil=>intro i s;rfl
   | cons y L ih=>
    intro i s
    obtain ⟨o,p⟩:=y
    simp only [stateAt]
    rw [qeg]
    exact ih (i+1) s
  rw [hz]
  exact ⟨hs.slots,hs.defers,hs.mem.below ((Below.refl _ _).drew)⟩
def qdh (E:Env) (B:Nat→ASt→Prop) (n:Nat) (k:List Itm) (full:Array Oper):List Oper→List AV→ASt→Prop
 | [],_,s=>exec E B n k s
 | ⟨dst,op,ty,pos,aft,guard⟩::rest,cs,⟨sl,st,nx⟩=>
  match jm E dst with
  | false=>False
  | true=>
   match guard with
   | none=>
    match aop E.T E.C ⟨sl,st,nx⟩ dst op with
    | .ok ob v=>bif jg op then False else cj ob (frc v (je sl dst (fun sl'=>qdh E B n k full rest cs ⟨sl',st,nx⟩)))
    | .mem ob v st' nx'=>bif jg op then False else cj ob (frcN nx' fun nx'=>qao st' fun st'=>frc v (je sl dst (fun sl'=>qdh E B n k full rest cs ⟨sl',st',nx'⟩)))
    | .call f args=>
     match jg op,cs with
     | true,x::cs=>frcL args fun args=>Ob (qcu E.P f args x) (je sl dst (fun sl'=>qdh E B n k full rest cs ⟨sl',st,nx⟩) x)
     | _,_=>False
    | .bad=>False
   | some (j,want)=>
    match (qbi full j).map (ASt.get ⟨sl,st,nx⟩) with
    | some x=>
     match qcs want x with
     | some g=>
      match aop E.T E.C ⟨sl,st,nx⟩ dst op with
      | .ok ob v=>bif jg op then False else cj (gob g (andO (jh st v) ob)) (frc (strip st v) (fun v'=>je sl dst (fun sl'=>qdh E B n k full rest cs ⟨sl',st,nx⟩) (.cnd g v')))
      | .call f args=>
       match jg op,cs with
       | true,x::cs=>frcL args fun args=>Ob (g=true→qcu E.P f args x) (je sl dst (fun sl'=>qdh E B n k full rest cs ⟨sl',st,nx⟩) (.cnd g x))
       | _,_=>False
      | _=>False
     | none=>False
    | none=>False
theorem jfj {E:Env} {B:Nat→ASt→Prop} {n:Nat} {k:List Itm} {full:Array Oper}:∀ (l:List Oper) (cs:List AV) (i:Nat) (s:ASt),qdh E B n k full l cs s→
  ∃ L,drun E full l cs s=some L∧qjz L∧exec E B n k (stateAt L i (fun _=>true) s):=by
 intro l
 induction l with
 | nil=>intro cs i s h;exact ⟨[],rfl,trivial,h⟩
 | cons o rest ih=>
  intro cs i s h
  obtain ⟨dst,op,ty,pos,aft,guard⟩:=o
  obtain ⟨sl,st,nx⟩:=s
  simp only [qdh] at h
  cases hd:jm E dst with
  | false=>rw [hd] at h;exact False.elim h
  | true=>
   rw [hd] at h
   simp only at h
   have fin:∀ (cs':List AV) (p:Stp) (x:AV),(∀ cs'' ,drun E full (⟨dst,op,ty,pos,aft,guard⟩::rest) cs ⟨sl,st,nx⟩=cs''↔(drun E full rest cs' (after ⟨sl,st,nx⟩ ⟨dst,op,ty,pos,aft,guard⟩ p)).map ((⟨dst,op,ty,pos,aft,guard⟩,p)::·)=cs'')→p.ob→
     qdh E B n k full rest cs' (after ⟨sl,st,nx⟩ ⟨dst,op,ty,pos,aft,guard⟩ p)→∃ L,drun E full (⟨dst,op,ty,pos,aft,guard⟩::rest) cs ⟨sl,st,nx⟩=some L∧qjz L∧exec E B n k (stateAt L i (fun _=>true) ⟨sl,st,nx⟩):=by
    intro cs' p x he hob hk
    obtain ⟨L,h1,h2,h3⟩:=ih cs' (i+1) _ hk
    exact ⟨(⟨dst,op,ty,pos,aft,guard⟩,p)::L,(he _).2 (by rw [h1];rfl),⟨hob,h2⟩,h3⟩
   have plain:∀ p,jg op=false→jk E full ⟨sl,st,nx⟩ ⟨dst,op,ty,pos,aft,guard⟩ .any=some p→
     ∀ cs'',drun E full (⟨dst,op,ty,pos,aft,guard⟩::rest) cs ⟨sl,st,nx⟩=cs''↔(drun E full rest cs (after ⟨sl,st,nx⟩ ⟨dst,op,ty,pos,aft,guard⟩ p)).map ((⟨dst,op,ty,pos,aft,guard⟩,p)::·)=cs'':=by
    intro p hc hs cs''
    simp only [drun,hc,hs]
   have called:∀ p x cs0,jg op=true→cs=x::cs0→jk E full ⟨sl,st,nx⟩ ⟨dst,op,ty,pos,aft,guard⟩ x=some p→
     ∀ cs'',drun E full (⟨dst,op,ty,pos,aft,guard⟩::rest) cs ⟨sl,st,nx⟩=cs''↔(drun E full rest cs0 (after ⟨sl,st,nx⟩ ⟨dst,op,ty,pos,aft,guard⟩ p)).map ((⟨dst,op,ty,pos,aft,guard⟩,p)::·)=cs'':=by
    intro p x cs0 hc he hs cs''
    subst he
    simp only [drun,hc,hs]
   cases guard with
   | none=>
    simp only at h
    cases hr:aop E.T E.C ⟨sl,st,nx⟩ dst op with
    | ok ob v=>
     rw [hr] at h
     cases hc:jg op with
     | true=>rw [hc] at h;exact False.elim h
     | false=>
      simp only [hc,cond_false,ju,jd] at h
      obtain ⟨hob,hk⟩:=qfs h
      refine fin cs ⟨v,false,st,nx,obT ob⟩ v (plain _ hc ?_) hob hk
      simp only [jk,hd,hr]
    | mem ob v st' nx'=>
     rw [hr] at h
     cases hc:jg op with
     | true=>rw [hc] at h;exact False.elim h
     | false=>
      simp only [hc,cond_false,ju,jd,jp,qaz] at h
      obtain ⟨hob,hk⟩:=qfs h
      refine fin cs ⟨v,true,st',nx',obT ob⟩ v (plain _ hc ?_) hob hk
      simp only [jk,hd,hr]
    | call f args=>
     rw [hr] at h
     simp only at h
     split at h
     ·rename_i x cs0 hc
      simp only [qcg,jd] at h
      refine fin cs0 ⟨x,false,st,nx,qcu E.P f args x⟩ x (called _ x cs0 hc rfl ?_) (Ob.left h) (Ob.right h)
      simp only [jk,hd,hr]
     ·exact False.elim h
    | bad=>rw [hr] at h;exact False.elim h
   | some jw=>
    obtain ⟨j,want⟩:=jw
    simp only at h
    split at h
    ·rename_i y hy
     split at h
     ·rename_i g hg
      split at h
      ·rename_i ob v hr
       cases hc:jg op with
       | true=>rw [hc] at h;exact False.elim h
       | false=>
        simp only [hc,cond_false,ju,jd] at h
        obtain ⟨hob,hk⟩:=qfs h
        refine fin cs ⟨.cnd g (strip st v),false,st,nx,g=true→obT (andO (jh st v) ob)⟩ v (plain _ hc ?_) (fun hgt=>?_) hk
        ·simp only [jk,hd,hy,hg,hr]
        ·generalize andO (jh st v) ob=oo at hob
         cases oo with
         | none=>trivial
         | some p=>exact hob hgt
      ·rename_i f args hr
       split at h
       ·rename_i x cs0 hc
        simp only [qcg,jd] at h
        refine fin cs0 ⟨.cnd g x,false,st,nx,g=true→qcu E.P f args x⟩ x (called _ x cs0 hc rfl ?_) (Ob.left h) (Ob.right h)
        simp only [jk,hd,hy,hg,hr]
       ·exact False.elim h
      ·exact False.elim h
     ·exact False.elim h
    ·exact False.elim h
theorem jfk {E:Env} {B:Nat→ASt→Prop} {id:Nat} {ops:Array Oper} {k:List Itm} {s:ASt} (hT:∀ t,E.T t=tab E.P t) (hmix:E.P.follows .mixedOrders=true) (n:Nat) (cs:List AV)
  (hord:(match drun E ops ops.toList cs s with|some L=>qij ops L|none=>true)=true) (h:qdh E B n k ops ops.toList cs s):qby E B id ops k s:=by
 obtain ⟨L,h1,h2,h3⟩:=jfj _ _ 0 _ h
 rw [h1] at hord
 exact jfi hT hmix n cs h1 hord h2 h3
theorem qv {n:Int} (h1:-9223372036854775808≤n) (h2:n≤9223372036854775807):inR .i64 n:=by
 simp [inR,IntKind.min,IntKind.max,IntKind.signed,IntKind.bits];omega
def encL {α:Type} (enc:α→List AV) (d:α) (l:List α):Nat→List AV:=fun i=>enc (l.getD i d)
def slcL {α:Type} (enc:α→List AV) (d:α) (sz:Nat) (l:List α):AV:=.slc sz l.length (encL enc d l)
theorem jfl {α:Type} (enc:α→List AV) (d:α) (l m:List α):appF l.length (encL enc d l) m.length (encL enc d m)=encL enc d (l++m):=by
 funext i
 simp only [appF,encL,List.getD_eq_getElem?_getD]
 by_cases h:i<l.length
 ·rw [zb h,zp h]
 ·rw [za h]
  by_cases h2:i<l.length+m.length
  ·rw [zb h2,zm (by omega)]
  ·rw [za h2,zak (by omega),zak (by simp;omega)]
theorem qwr {α:Type} (enc:α→List AV) (d:α) (l:List α) (x:α) (g:Nat→List AV) (h:g 0=enc x):appF l.length (encL enc d l) 1 g=encL enc d (l++[x]):=by
 rw [← jfl]
 funext i
 simp only [appF,zq,List.length_nil]
 by_cases h1:i<l.length
 ·simp [h1]
 ·by_cases h2:i<l.length+(0+1)
  ·obtain rfl:i=l.length:=by omega
   simp [h,encL]
  ·have h2':¬ i<l.length+1:=by omega
   simp [h1,h2']
theorem jfm {sl:List (Nat × AV)} {st:List (Nat × SO)} {nx:Nat} {E:Env} {B:Nat→ASt→Prop} {f:FuncId} {args:List AV} {dst:Option Nat} {full:Array Oper} {rest:List Oper} {k:List Itm} (hT:∀ t,E.T t=tab E.P t) (n:Nat) {res:AV} (hc:Con E.P f args res)
  (hp:args.all AV.pure=true) (hd:jm E dst=true) (h:je sl dst (fun sl'=>exec E B n (.ops full rest::k) ⟨sl',st,nx⟩) res):qay E B f args dst full rest k ⟨sl,st,nx⟩:=
 qau hT n hc hp (LeL.refl _) hd h
def unc:AV→AV
 | .cnd _ v=>v
 | v=>v
def qil (g:Bool):List AV→Prop
 | []=>True
 | .cnd b _::xs=>b=g∧qil g xs
 | _::xs=>qil g xs
theorem qoj {g:Bool} (hg:g=true):∀ (xs:List AV),qil g xs→LeL xs (xs.map unc)
 | [],_=>trivial
 | x::xs,h=>by
  cases x with
  | cnd b v=>exact ⟨Le.cnd (h.1.trans hg),qoj hg xs h.2⟩
  | _=>exact ⟨Le.refl _,qoj hg xs h⟩
theorem qws {sl:List (Nat × AV)} {st:List (Nat × SO)} {nx:Nat} {E:Env} {B:Nat→ASt→Prop} {g:Bool} {f:FuncId} {args:List AV} {dst:Option Nat} {full:Array Oper} {rest:List Oper} {k:List Itm} (hT:∀ t,E.T t=tab E.P t) (n:Nat) {res:AV} (hc:g=true→Con E.P f (args.map unc) res)
  (hp:(args.map unc).all AV.pure=true) (hgs:qil g args) (hd:jm E dst=true) (h:je sl dst (fun sl'=>exec E B n (.ops full rest::k) ⟨sl',st,nx⟩) (.cnd g res)):qgj E B g f args dst full rest k ⟨sl,st,nx⟩:=
 qcn hT n hc hp (fun hg=>qoj hg _ hgs) hd h
theorem jfn {rd:Rd} {mp:Mp} {x y:AV} {vs:Array Value} (h:RelL rd mp [x,y] vs):∃ u v,vs=#[u,v]∧Rel rd mp x u∧Rel rd mp y v:=by
 obtain ⟨l⟩:=vs
 obtain ⟨h1,h2⟩:=h
 match l,h1 with
 | [u,v],_=>exact ⟨u,v,rfl,h2 0 x u rfl rfl,h2 1 y v rfl rfl⟩
theorem jfo {P : Program} {f : FuncId} {fn : Func} (hf : P.funcs[f]? = some fn) (hname : (fn.name == "runtime.NumGoroutine") = false) (hb : fn.body.isNone = true) (hn : Extern.findNext fn = none)
  (he:Extern.find fn=some Extern.BytealgIndexByte.indexByte) (l:List UInt8) (c:Int):Con P f [.str l,.int .u8 c] (.int .i64 (Lib.indexByte l c.toNat.toUInt8)):=by
 intro rd w vs hm hargs
 obtain ⟨u,v,rfl,hu,hv⟩:=jfn hargs
 cases qef hu
 cases qaw hv
 refine .inr ⟨_,w,by rw [run_callFunc_extern hf hname hb hn he,Lib.run_indexByteString];rfl,rd,.int _ _ _,Rd.le.refl _,hm,fun g o v h=>.inl h,Below.refl _ _⟩
end Go.Sx
end
section
namespace Go.Sx
open Go Go.RowKit Go.WideShapes Go.ChangeShapes
theorem calls_of_con {P : Program} {f : FuncId} {fn : Func} {body : Code} {args : List AV} {res : AV} (hf : P.funcs[f]? = some fn) (hb : fn.body = some body) (hname : (fn.name == "runtime.NumGoroutine") = false) (h : Con P f args res)
  {rd:Rd} {w:World} {vs:Array Value} (hm:MemR rd w) (ha:RelL rd Mp.none args vs) :
  Calls P f vs w fun e w'=>∃ v,e=.returned v∧(∃ rd',Rel rd' Mp.none res v)∧Below w.heap.size w w':=by
 have hname' : fn.name ≠ "runtime.NumGoroutine" := by simpa using hname
 have he:(callFunc f vs).run P w=.ok (.enter f vs) w:=by simp [callFunc,hf,hname',hb,mark]
 rcases h rd w vs hm ha with ⟨_,h1⟩|⟨v,w',h1,_⟩
 ·refine h1.mono fun e w' he=>?_
  rcases he with ⟨v,hv,rd',h1,_,_,_,h2⟩|⟨_,_,h⟩
  ·exact ⟨v,hv,⟨rd',h1⟩,h2⟩
  ·exact False.elim h
 ·rw [he] at h1;cases h1
section
variable {H:Type} {enc:TypeId × Value→H} {P:Program}
theorem post_of_below {f:Func} {s:ChangeSpec} {apart fresh handsOn again:Bool} {W W':World} {args:Array Value} {v:Value} {ds gs:List (DataW H)} {before pa pv:List MemPlace}
  (hW:DataW.Whole enc P f.params.toList s.vars apart W args.toList ds gs before)
  (hres:∀ (b:Nat) (sp:Nat→Bool) (hd:Bool),DataW.TrodAll enc P W' b sp hd f.resultTypes.toList (v.resultList f.resultTypes.size) (s.fn H (ds++gs)).results [])
  (hargs:∀ sp:Nat→Bool,(∀ p∈before,sp p.block=true)→DataW.TrodAll enc P W' 0 sp true f.params.toList args.toList (s.fn H (ds++gs)).args pa)
  (hvars:∀ sp:Nat→Bool,(∀ p∈before,sp p.block=true)→DataW.TrodVars enc P W' sp s.vars (s.fn H (ds++gs)).vars pv)
  (hps:before=pa++pv) (hb:Below W.heap.size W W')
  (hok:∀ (j:Nat) (t:TypeId) (r:Value),f.resultTypes[j]?=some t→(v.resultList f.resultTypes.size)[j]?=some r→Value.okWide P W' .any 0 t r) :
  s.post enc P f apart fresh handsOn again W args v W':=by
 have hlt:∀ p∈before,p.block<W.heap.size:=fun p hp=>hW.lt p hp
 have hold:∀ p∈before,(fun b=>decide (b<W.heap.size)) p.block=true:=fun p hp=>by simpa using hlt p hp
 refine ⟨ds,gs,before,[],pa,pv,hW,hres _ _ _,hargs _ hold,hvars _ hold,World.keptBut_mono (fun p hp=>⟨hp,?_⟩) (hb.frame (·∈before)),fun _=>?_⟩
 ·rw [hps,zaj] at hp
  exact Or.inr hp
 ·obtain ⟨_,_,_,_,_,hz,hn⟩:=hW
  refine ⟨hok,_,_,([]++pa)++pv,⟨[]++pa,pv,trodAll_append (hargs _ (fun _ _=>rfl)) (hres _ _ _),hvars _ (fun _ _=>rfl),rfl,?_,?_⟩,?_⟩
  ·intro b off hp
   have hin:MemPlace.cell b off∈before:=by rw [hps];simpa using hp
   rw [hb.frozen (hlt _ hin)]
   exact hz b off hin
  ·intro ha
   have:=hn ha
   rw [hps] at this
   simpa using this
  ·intro p hp _
   rw [hps]
   simpa using hp
end
end Go.Sx
end
section
namespace Go.Sx
open Go Go.RowKit Go.WideShapes Go.ChangeShapes Go.Deep
def rdW (w:World):Rd:=fun b o=>(w.cell? ⟨b,o,none⟩).filter (fun v=>v.oneCell')
theorem jfp {w:World} {b o:Nat} {v:Value} (h:w.cell? ⟨b,o,none⟩=some v) (h1:v.oneCell'=true):rdW w b o=some v:=by
 unfold rdW;rw [h];simp [Option.filter,h1]
theorem memR_rdW (w:World) (ht:TabR (rdW w) w):MemR (rdW w) w:=by
 have key:∀ g o v,rdW w g o=some v→w.cell? ⟨g,o,none⟩=some v∧v.oneCell'=true:=fun g o v h=>by
  unfold rdW at h
  cases hc:w.cell? ⟨g,o,none⟩ with
  | none=>rw [hc] at h;simp at h
  | some u=>
   rw [hc] at h
   simp only [Option.filter] at h
   split at h
   ·cases h;exact ⟨rfl,by assumption⟩
   ·cases h
 exact ⟨fun g o v h=>(key g o v h).1,fun g o v h=>(key g o v h).2,ht⟩
theorem tabR_none (w:World):TabR (rdW w) w:=fun t ht=>by cases ht
section
variable {H:Type} (enc:TypeId × Value→H) (P:Program)
def Rdr (t:TypeId) (p:List AV→Prop):Prop:=∀ (w:World) (fuel:Nat) (cs:List Value) (x:DataW H × List MemPlace),DataW.trod enc P w 0 (fun _=>true) true fuel t cs=some x→
 ∃ ys,p ys∧ys.length=cs.length∧∀ (j:Nat) y v,ys[j]?=some y→cs[j]?=some v→v.oneCell'=true∧Rel (rdW w) Mp.none y v
variable {enc P}
theorem Rdr.mono {t:TypeId} {p q:List AV→Prop} (h:Rdr enc P t p) (hpq:∀ ys,p ys→q ys):Rdr enc P t q:=fun w fuel cs x hx=>by
 obtain ⟨ys,h1,h2⟩:=h w fuel cs x hx
 exact ⟨ys,hpq ys h1,h2⟩
theorem qok {rd:Rd} {y:AV} {v:Value} (h1:v.oneCell'=true) (h2:Rel rd Mp.none y v):∀ (j:Nat) y' v',[y][j]?=some y'→[v][j]?=some v'→v'.oneCell'=true∧Rel rd Mp.none y' v'
 | 0,y',v',hy,hv=>by cases hy;cases hv;exact ⟨h1,h2⟩
 | j+1,y',v',hy,hv=>by simp at hy
theorem qrx {t:TypeId} {k:IntKind} (ht:P.underlying t=some (.int k)):Rdr enc P t (fun ys=>∃ n:Int,(Lit.int k n).wf=true∧ys=[.int k n]):=fun w fuel cs x hx=>by
 obtain ⟨n,rfl,_,hw⟩:=DataW.trod_int ht hx
 exact ⟨_,⟨n,hw,rfl⟩,rfl,qok rfl (.int _ _ _)⟩
theorem qwt {t:TypeId} (ht:P.underlying t=some .string):Rdr enc P t (fun ys=>∃ s:List UInt8,s.length≤maxLen∧ys=[.str s]):=fun w fuel cs x hx=>by
 obtain ⟨s,rfl,_,hs⟩:=DataW.trod_string ht hx
 exact ⟨_,⟨s.data.toList,by simpa using hs,rfl⟩,rfl,qok rfl (.str _ _)⟩
theorem qry {t e:TypeId} {sz:Nat} {α:Type} {en:α→List AV} {d:α} {ok:α→Prop} (ht:P.underlying t=some (.slice e)) (hc:P.cellsOf e=sz) (hs:0<sz) (hl:∀ a,(en a).length=sz)
  (h:Rdr enc P e (fun ys=>∃ a,ok a∧ys=en a)):Rdr enc P t (fun ys=>∃ l:List α,(l.length≤maxLen∧∀ a∈l,ok a)∧ys=[slcL en d sz l]):=by
 intro w fuel cs x hx
 rcases open_slice ht hx with ⟨rfl,_⟩|⟨a,len,cap,m,n,D,Pl,rfl,_,hlc,hcm,hm,_,hel⟩
 ·exact ⟨_,⟨[],⟨xv _,fun a ha=>by cases ha⟩,rfl⟩,rfl,qok rfl (.slc0 _ _ _ _ _)⟩
 simp only [if_true] at hm
 subst hm
 haveI:Inhabited α:=⟨d⟩
 have key:∀ i,i<len→∃ a':α,ok a'∧∃ cs',w.cells? 0 (a.add (i * sz)) sz=some cs'∧∀ (j:Nat) y v,(en a')[j]?=some y→cs'[j]?=some v→v.oneCell'=true∧Rel (rdW w) Mp.none y v:=fun i hi=>by
  obtain ⟨cs',h1,h2⟩:=hel i (by omega)
  obtain ⟨ys,⟨a',h3,rfl⟩,_,h4⟩:=h w n cs' _ h2
  rw [hc] at h1
  exact ⟨a',h3,cs',h1,h4⟩
 obtain ⟨f,hf⟩:=choose_lt key
 have hL:((List.range len).map f).length=len:=by simp
 refine ⟨_,⟨(List.range len).map f,⟨by rw [hL];exact xb hlc hcm,fun b hb=>?_⟩,rfl⟩,rfl,qok rfl ?_⟩
 ·obtain ⟨i,hi,rfl⟩:=List.mem_map.1 hb
  exact (hf i (List.mem_range.1 hi)).1
 unfold slcL
 rw [hL]
 rcases Nat.eq_zero_or_pos len with rfl|hpos
 ·exact .slc0 _ _ _ _ _
 have hcell:∀ i j,i<len→j<sz→∃ v,w.cell? (a.add (i * sz+j))=some v∧v.oneCell'=true∧∃ y,(en (f i))[j]?=some y∧Rel (rdW w) Mp.none y v:=fun i j hi hj=>by
  obtain ⟨_,cs',h1,h2⟩:=hf i hi
  obtain ⟨_,h3,h4⟩:=World.cells?_some h1
  have h5:=h4 j hj
  have h6:(en (f i))[j]?=some ((en (f i))[j]'(by rw [hl];exact hj)):=ze _
  have h7:cs'[j]?=some (cs'[j]'(by omega)):=ze _
  have h8:=h2 j _ _ h6 h7
  refine ⟨_,?_,h8.1,_,h6,h8.2⟩
  rw [← h7,← h5,add_add]
 have hspot:a.spot=none:=by
  obtain ⟨v,h1,_⟩:=hcell 0 0 hpos hs
  have h2:(a.add (0 * sz+0)).spot=none:=by
   unfold World.cell? at h1
   split at h1
   ·split at h1
    ·cases h1
    ·rename_i h;simpa using h
   ·cases h1
  obtain ⟨blk,off,spot⟩:=a
  cases spot with
  | none=>rfl
  | some k=>simp [Addr.add] at h2
 obtain ⟨blk,off,spot⟩:=a
 simp only at hspot
 subst hspot
 have hadd:∀ k,(⟨blk,off,none⟩:Addr).add k=⟨blk,off+k,none⟩:=fun k=>by
  unfold Addr.add
  split
  ·rename_i h;subst h;rfl
  ·rfl
 simp only [hadd] at hcell
 refine .slc _ _ _ _ blk off m (fun i j=>(w.cell? ⟨blk,off+(i * sz+j),none⟩).getD (.bool false)) hpos hlc (fun i hi=>?_) (fun i j hi hj=>?_) (fun i j y hi hy=>?_)
 ·exact hl _
 ·obtain ⟨v,h1,h2,_⟩:=hcell i j hi hj
  rw [h1];exact jfp h1 h2
 ·have e:encL en d ((List.range len).map f) i=en (f i):=by
   unfold encL
   rw [List.getD_eq_getElem?_getD,zg,List.getElem?_range hi];rfl
  rw [e] at hy
  have hj:j<sz:=by
   have:=(List.getElem?_eq_some_iff.1 hy).1
   rw [hl] at this;exact this
  obtain ⟨v,h1,h2,y',h3,h4⟩:=hcell i j hi hj
  rw [h1]
  rw [h3] at hy;cases hy
  exact h4
theorem jfq {t:TypeId} {fs:Array Field} {q:Nat→AV→Prop} (ht:P.underlying t=some (.struct fs)) (hc:P.cellsOf t=fs.size)
  (hr:∀ i f,fs[i]?=some f→(f.offset=i∧P.cellsOf f.type=1)∧Rdr enc P f.type (fun ys=>∃ y,q i y∧ys=[y])):Rdr enc P t (fun ys=>ys.length=fs.size∧∀ i y,ys[i]?=some y→q i y):=by
 intro w fuel cs x hx
 obtain ⟨xs,n,rfl,_,hlen,hxl,hf⟩:=DataW.trod_struct ht hx
 rw [hc] at hlen
 have key:∀ i,i<fs.size→∃ y,q i y∧∀ v,cs[i]?=some v→v.oneCell'=true∧Rel (rdW w) Mp.none y v:=fun i hi=>by
  have h0:fs[i]?=some fs[i]:=Array.getElem?_eq_getElem hi
  obtain ⟨⟨h1,h2⟩,h3⟩:=hr i _ h0
  have h4:=hf i _ h0
  rw [h1,h2,ze (by omega)] at h4
  obtain ⟨ys,⟨y,h5,rfl⟩,_,h7⟩:=h3 w n _ _ h4
  refine ⟨y,h5,fun v hv=>?_⟩
  refine h7 0 y v rfl ?_
  rw [List.getElem?_take_of_lt (by omega),zy];exact hv
 haveI:Inhabited AV:=⟨.any⟩
 obtain ⟨f,hf'⟩:=choose_lt key
 refine ⟨(List.range fs.size).map f,⟨by simp,fun i y hy=>?_⟩,by simp [hlen],fun j y v hy hv=>?_⟩
 ·rw [zg] at hy
  obtain ⟨k,hk,rfl⟩:=Option.map_eq_some_iff.1 hy
  obtain ⟨h1,rfl⟩:=List.getElem?_eq_some_iff.1 hk
  simp only [List.length_range] at h1
  rw [List.getElem_range]
  exact (hf' i h1).1
 ·rw [zg] at hy
  obtain ⟨k,hk,rfl⟩:=Option.map_eq_some_iff.1 hy
  obtain ⟨h1,rfl⟩:=List.getElem?_eq_some_iff.1 hk
  simp only [List.length_range] at h1
  rw [List.getElem_range]
  exact (hf' j h1).2 v hv
theorem qwu {t:TypeId} {α:Type} {ok:α→Prop} {en:α→AV} {W:World} {v:Value} {d:DataW H} {ps:List MemPlace} (hv:v.cells=#[v]) (h:Rdr enc P t (fun ys=>∃ a,ok a∧ys=[en a])) (hd:DataW.Trod enc P W 0 (fun _=>true) true t v d ps) :
  ∃ a,ok a∧Rel (rdW W) Mp.none (en a) v:=by
 obtain ⟨fuel,hf⟩:=hd
 rw [hv] at hf
 obtain ⟨ys,⟨a,h1,rfl⟩,_,h2⟩:=h W fuel _ _ hf
 exact ⟨a,h1,(h2 0 _ v rfl rfl).2⟩
theorem arg_slice {t e:TypeId} {α:Type} {ok:α→Prop} {en:α→AV} {W:World} {v:Value} {d:DataW H} {ps:List MemPlace} (ht:P.underlying t=some (.slice e)) {r:Reach} {b0:Nat} (hval:Value.okWide P W r b0 t v)
  (h:Rdr enc P t (fun ys=>∃ a,ok a∧ys=[en a])) (hd:DataW.Trod enc P W 0 (fun _=>true) true t v d ps):∃ a,ok a∧Rel (rdW W) Mp.none (en a) v:=by
 obtain ⟨a,len,cap,rfl⟩:=okWide_slice ht hval
 exact qwu rfl h hd
theorem arg_str {t:TypeId} {W:World} {v:Value} {d:DataW H} {ps:List MemPlace} (ht:P.underlying t=some .string) {r:Reach} {b0:Nat} (hval:Value.okWide P W r b0 t v)
  (hd:DataW.Trod enc P W 0 (fun _=>true) true t v d ps):∃ s:List UInt8,s.length≤maxLen∧Rel (rdW W) Mp.none (.str s) v:=by
 obtain ⟨s,rfl⟩:=okWide_string ht hval
 exact qwu rfl (qwt ht) hd
theorem shut_all (hl:laidOutB P=true) {W W':World} (hb:Below W.heap.size W W'):∀ (ts:List TypeId) (vs:List Value) (ds:List (DataW H)) (ps:List MemPlace),(∀ t∈ts,P.readableRec t=true∧t<P.types.size)→
  DataW.TrodAll enc P W 0 (fun _=>true) true ts vs ds ps→(∀ p∈ps,p.block<W.heap.size)→∀ sp:Nat→Bool,(∀ p∈ps,sp p.block=true)→DataW.TrodAll enc P W' 0 sp true ts vs ds ps
 | [],[],[],ps,_,h,_,_,_=>h
 | t::ts,v::vs,d::ds,ps,hr,h,hlt,sp,hs=>by
  obtain ⟨p,q,h1,h2,rfl⟩:=h
  refine ⟨p,q,?_,shut_all hl hb ts vs ds q (fun t ht=>hr t (xu _ ht)) h2 (fun x hx=>hlt x (List.mem_append_right _ hx)) sp (fun x hx=>hs x (List.mem_append_right _ hx)),rfl⟩
  have:=hr t (xz ..)
  exact WideElems.Trod_stays hl this.1 this.2 h1 (fun x hx=>hb.same (hlt x (List.mem_append_left _ hx))) (fun x hx=>hs x (List.mem_append_left _ hx))
 | [],_::_,_,_,_,h,_,_,_=>by cases h
 | [],[],_::_,_,_,h,_,_,_=>by cases h
 | _::_,[],_,_,_,h,_,_,_=>by cases h
 | _::_,_::_,[],_,_,h,_,_,_=>by cases h
theorem relL2 {rd:Rd} {mp:Mp} {x y:AV} {v w:Value} (h:Rel rd mp x v) (h':Rel rd mp y w):RelL rd mp [x,y] #[v,w]:=⟨rfl,fun j z u hy hu=>by
 match j with
 | 0=>cases hy;cases hu;exact h
 | 1=>cases hy;cases hu;exact h'
 | j+2=>simp at hy⟩
end
end Go.Sx
end
section
namespace Go.Sx
open Go Go.RowKit
def qba (full:Array Oper) (x y:Oper × Stp):Bool:=(x.2.wr && y.2.wr) || (hits full x.1 y.1 || hits full y.1 x.1)
theorem qrz (full:Array Oper) (x y:Oper × Stp):qba full x y=qba full y x:=by
 simp only [qba,Bool.or_comm,Bool.and_comm]
def qbs (full:Array Oper) (L:List (Oper × Stp)):Bool:=
 (List.range L.length).all fun j=>
  ((List.range j).all fun i=>(match L[i]?,L[j]? with|some x,some y=>!qba full x y || (anc full L.length j).contains i|_,_=>true)) &&
  (match full.toList[j]? with|some o=>o.after.all fun e=>!Region.binds .any e || Nat.blt e.on j|none=>true)
theorem qhi {full:Array Oper} {L:List (Oper × Stp)} (h:qbs full L=true) {i j:Nat} {x y:Oper × Stp} (hij:i<j) (hx:L[i]?=some x) (hy:L[j]?=some y) (hc:qba full x y=true):i∈anc full L.length j:=by
 have hj:j<L.length:=(List.getElem?_eq_some_iff.1 hy).1
 have h1:=List.all_eq_true.1 h j (List.mem_range.2 hj)
 simp only [zf] at h1
 have h2:=List.all_eq_true.1 h1.1 i (List.mem_range.2 hij)
 rw [hx,hy] at h2
 simp only [hc,xx,xq] at h2
 simpa using h2
theorem qwv {full:Array Oper} {L:List (Oper × Stp)} (h:qbs full L=true) {j:Nat} (hj:j<L.length) {o:Oper} (ho:full.toList[j]?=some o):∀ e∈o.after,Region.binds .any e=true→e.on<j:=by
 have h1:=List.all_eq_true.1 h j (List.mem_range.2 hj)
 simp only [zf,ho] at h1
 intro e he hb
 have:=(Array.all_eq_true_iff_forall_mem.1 h1.2) e he
 simp only [hb,xx,xq,xl] at this
 exact this
def StepS (E:Env) (full:Array Oper) (s:ASt) (o:Oper) (p:Stp):Prop:=
 ∀ rd mp a w,SR E.c rd mp s a w→a.tmps.size=E.fn.ntmps→∀ (K:Act→World→Prop) (Q:Exit→Act→World→Prop),
  (∀ x w' rd' mp',Rd.le rd rd'→Mp.le mp mp'→Mem E.c rd' mp' (bif p.wr then p.st else s.st) (bif p.wr then p.nx else s.nx) w'→Rel rd' mp' p.v x→(∀ d,o.dst=some d→d<a.tmps.size)→K (a.put o.dst x) w')→
  if Region.wanted o (yielded full a.tmps) then o.wp E.P a w K Q∨(o.asks E.P a w∧LetsOut Q) else K (a.put o.dst undef) w
def qol (QP:(Exit→Act→World→Prop)→Prop) (E:Env) (full:Array Oper) (s:ASt) (o:Oper) (p:Stp):Prop:=
 ∀ rd mp a w,SR E.c rd mp s a w→Base E rd mp→a.tmps.size=E.fn.ntmps→∀ (K:Act→World→Prop) (Q:Exit→Act→World→Prop),QP Q→
  (∀ x w' rd' mp',Rd.le rd rd'→Mp.le mp mp'→Mem E.c rd' mp' (bif p.wr then p.st else s.st) (bif p.wr then p.nx else s.nx) w'→Rel rd' mp' p.v x→(∀ d,o.dst=some d→d<a.tmps.size)→K (a.put o.dst x) w')→
  if Region.wanted o (yielded full a.tmps) then o.wp E.P a w K Q∨(o.asks E.P a w∧LetsOut Q) else K (a.put o.dst undef) w
theorem StepS.q {E:Env} {full:Array Oper} {s:ASt} {o:Oper} {p:Stp} (QP:(Exit→Act→World→Prop)→Prop) (h:StepS E full s o p):qol QP E full s o p:=fun rd mp a w h1 _ h2 K Q _ h3=>h rd mp a w h1 h2 K Q h3
structure Adm (full:Array Oper) (n:Nat) (S:Nat→Bool) (i:Nat):Prop where
 anc:∀ j∈anc full n i,S j=true
 self:S i=false
 desc:∀ j,i∈Go.Sx.anc full n j→j<full.size→S j=false
 cl:∀ j,S j=true→∀ q∈Go.Sx.anc full n j,S q=true
theorem qww {E:Env} {Q:Exit→Act→World→Prop} {ops:Array Oper} {s:ASt} {L:List (Oper × Stp)} {QP:(Exit→Act→World→Prop)→Prop} (hQP:QP Q) (hLo:L.map (·.1)=ops.toList)
  (hst:∀ (i:Nat) x,L[i]?=some x→∀ S,Adm ops L.length S i→qol QP E ops (stateAt L 0 S s) x.1 x.2)
  (hord:qbs ops L=true) (hfin:∀ rd mp a w,SR E.c rd mp (stateAt L 0 (fun _=>true) s) a w→Base E rd mp→a.tmps.size=E.fn.ntmps→Q .normal a w) :
  ∀ (fuel:Nat) (listed:Array Bool) (a:Act) (w:World),listed.size=ops.size→listed.count false≤fuel→
   (∀ j o,ops.toList[j]?=some o→listed.getD j false=true→∀ e∈o.after,Region.binds .any e=true→listed.getD e.on false=true)→
   a.tmps.size=E.fn.ntmps→(∃ rd mp,SR E.c rd mp (stateAt L 0 (fun i=>listed.getD i false) s) a w∧Base E rd mp)→wpAny E.P .any ops Q fuel listed a w:=by
 have hlen:L.length=ops.size:=by have:=congrArg List.length hLo;simpa using this
 have done:∀ (listed:Array Bool) (a:Act) (w:World),listed.size=ops.size→(∀ i,i<ops.size→listed.getD i false=true)→a.tmps.size=E.fn.ntmps→
   (∃ rd mp,SR E.c rd mp (stateAt L 0 (fun i=>listed.getD i false) s) a w∧Base E rd mp)→Q .normal a w:=by
  rintro listed a w _ hall hsz ⟨rd,mp,hs,hrd⟩
  have heq:∀ (L':List (Oper × Stp)) (i:Nat) (S S':Nat→Bool) (s:ASt),(∀ j,j<L'.length→S (i+j)=S' (i+j))→stateAt L' i S s=stateAt L' i S' s:=by
   intro L'
   induction L' with
   | nil=>intro i S S' s _;rfl
   | cons y L' ih=>
    intro i S S' s h
    obtain ⟨o,p⟩:=y
    simp only [stateAt]
    have h0:=h 0 (by simp)
    simp only [xf] at h0
    rw [h0]
    exact ih (i+1) S S' _ (fun j hj=>by have:=h (j+1) (by simp;omega);rwa [show i+(j+1)=i+1+j by omega] at this)
  rw [heq L 0 _ (fun _=>true) s (fun j hj=>by rw [zn];exact hall j (by omega))] at hs
  exact hfin rd mp a w hs hrd hsz
 have full_of_ready:∀ (listed:Array Bool),listed.size=ops.size→Region.ready .any ops listed=[]→∀ i,i<ops.size→listed.getD i false=true:=by
  intro listed hls hr i
  induction i using Nat.strongRecOn with
  | _ i ih=>
   intro hi
   cases hl:listed.getD i false with
   | true=>rfl
   | false=>
    exfalso
    have hmem:i∈Region.ready .any ops listed:=by
     rw [mem_ready]
     refine ⟨by simp [hls,hi] at hl ⊢;exact hl,ops[i],by simp [hi],fun e he hb=>?_⟩
     have:=qwv hord (j:=i) (by omega) (o:=ops[i]) (by simp [hi]) e he hb
     exact ih e.on this (by omega)
    rw [hr] at hmem
    simp at hmem
 intro fuel
 induction fuel with
 | zero=>
  intro listed a w hls hcnt hcl hsz hs
  have hall:∀ i,i<ops.size→listed.getD i false=true:=by
   intro i hi
   cases hl:listed.getD i false with
   | true=>rfl
   | false=>
    exfalso
    have hi':i<listed.size:=by omega
    have:false∈listed:=by
     have h2:listed[i]=false:=by simpa [hi'] using hl
     rw [← h2];exact Array.getElem_mem hi'
    have:=Array.count_pos_iff.2 this
    omega
  refine ⟨?_,done listed a w hls hall hsz hs⟩
  cases hr:Region.ready .any ops listed with
  | nil=>rfl
  | cons i r=>
   exfalso
   have hmem:i∈Region.ready .any ops listed:=by rw [hr];simp
   rw [mem_ready] at hmem
   obtain ⟨h0,o,ho,_⟩:=hmem
   have hi:i<ops.size:=(Array.getElem?_eq_some_iff.1 ho).1
   have:=hall i hi
   have hi':i<listed.size:=by omega
   simp [hi'] at h0 this
   rw [h0] at this
   cases this
 | succ fuel ih=>
  intro listed a w hls hcnt hcl hsz hs
  refine ⟨fun hr=>done listed a w hls (full_of_ready listed hls hr) hsz hs,fun i hi=>?_⟩
  rw [mem_ready] at hi
  obtain ⟨h0,o,ho,hedges⟩:=hi
  have hin:i<ops.size:=(Array.getElem?_eq_some_iff.1 ho).1
  have hil:i<listed.size:=by omega
  have hli:listed.getD i false=false:=by simp [hil] at h0 ⊢;exact h0
  have hol:ops.toList[i]?=some o:=by simpa using ho
  obtain ⟨rd,mp,hs,hrd⟩:=hs
  obtain ⟨p,hp⟩:∃ p,L[i]?=some (o,p):=by
   have hi':i<L.length:=by omega
   refine ⟨L[i].2,?_⟩
   have:(L.map (·.1))[i]?=some o:=by rw [hLo];exact hol
   rw [zg,ze hi'] at this
   simp at this
   rw [ze hi',← this]
  -- what is ahead is done, what is behind is not
  have hanc:∀ j∈anc ops L.length i,listed.getD j false=true:=qhh ops _ hcl _ i (fun o' ho'=>by rw [hol] at ho';cases ho';exact hedges)
  have hbeh:∀ j,i∈anc ops L.length j→j<ops.size→listed.getD j false=false:=by
   intro j hj hjs
   cases hl:listed.getD j false with
   | false=>rfl
   | true=>
    exfalso
    have:=qhh ops _ hcl L.length j (fun o' ho'=>hcl j o' ho' hl) i hj
    rw [hli] at this
    cases this
  have agree:∀ (j:Nat) x,L[j]?=some x→(qba ops x (o,p)=true∨qba ops (o,p) x=true)→(fun q=>listed.getD q false) j=decide (j<i):=by
   intro j x hx hc
   have hj:j<ops.size:=by rw [← hlen];exact (List.getElem?_eq_some_iff.1 hx).1
   have hsym:qba ops x (o,p)=qba ops (o,p) x:=qrz _ _ _
   have hc1:qba ops x (o,p)=true:=by rcases hc with h|h;exact h;rw [hsym];exact h
   have hc2:qba ops (o,p) x=true:=by rw [← hsym];exact hc1
   rcases zap j i with h|h|h
   ·simp only [h,decide_true];exact hanc j (qhi hord h hx hp hc1)
   ·subst h;simp only [Nat.lt_irrefl,decide_false];exact hli
   ·have:¬ j<i:=by omega
    simp only [this,decide_false]
    exact hbeh j (qhi hord h hp hx hc2) hj
  have hcld:∀ (j:Nat) x t,L[j]?=some x→x.1.dst=some t→o.dst=some t→qba ops x (o,p)=true:=by
   intro j x t _ hd ht
   have:hits ops x.1 o=true:=by simp [hits,hd,ht]
   simp [qba,this]
  have hclm:p.wr=true→∀ (j:Nat) (x:Oper × Stp),L[j]?=some x→x.2.wr=true→qba ops x (o,p)=true:=by
   intro hp' j x _ hw
   simp [qba,hw,hp']
  have hstep':=hst i (o,p) hp (fun q=>listed.getD q false) ⟨hanc,hli,hbeh,fun j hj q hq=>qhh ops _ hcl L.length j (fun o' ho'=>hcl j o' ho' hj) q hq⟩
  have hsucc:∀ (L':List (Oper × Stp)) (k' i':Nat) (s':ASt),L'[i']?=some (o,p)→stateAt L' k' (fun j=>decide (j<k'+i'+1)) s'=after (stateAt L' k' (fun j=>decide (j<k'+i')) s') o p:=by
   intro L'
   induction L' with
   | nil=>intro k' i' s' h;simp at h
   | cons y L' ihL=>
    intro k' i' s' h
    obtain ⟨o',p'⟩:=y
    have none_:∀ (M:List (Oper × Stp)) (m b:Nat),b≤m→∀ s,stateAt M m (fun j=>decide (j<b)) s=s:=by
     intro M
     induction M with
     | nil=>intro m b _ s;rfl
     | cons y M ihM=>
      intro m b hb s
      obtain ⟨o'',p''⟩:=y
      simp only [stateAt]
      have:decide (m<b)=false:=by simp;omega
      rw [this]
      exact ihM (m+1) b (by omega) s
    cases i' with
    | zero=>
     simp at h
     obtain ⟨rfl,rfl⟩:=h
     simp only [stateAt]
     have e1:decide (k'<k'+0+1)=true:=by simp
     have e2:decide (k'<k'+0)=false:=by simp
     rw [e1,e2]
     simp only [cond_true,cond_false]
     rw [none_ L' (k'+1) (k'+0+1) (by omega),none_ L' (k'+1) (k'+0) (by omega)]
    | succ i'=>
     simp at h
     simp only [stateAt]
     have e1:decide (k'<k'+(i'+1)+1)=true:=by simp;omega
     have e2:decide (k'<k'+(i'+1))=true:=by simp
     rw [e1,e2]
     simp only [cond_true]
     have:=ihL (k'+1) i' (after s' o' p') h
     rw [show k'+1+i'+1=k'+(i'+1)+1 by omega,show k'+1+i'=k'+(i'+1) by omega] at this
     exact this
  have hsi:=hsucc L 0 i s hp
  simp only [zn] at hsi
  have hS':∀ j,j≠i→(listed.setIfInBounds i true).getD j false=listed.getD j false:=fun j hj=>getD_set_ne false (Ne.symm hj)
  have hS'i:(listed.setIfInBounds i true).getD i false=true:=by simp [hil]
  have agree':∀ (j:Nat) x,L[j]?=some x→qba ops x (o,p)=true→(listed.setIfInBounds i true).getD j false=decide (j<i+1):=by
   intro j x hx hc
   by_cases hji:j=i
   ·subst hji;rw [hS'i];simp
   ·rw [hS' j hji]
    have:=agree j x hx (.inl hc)
    simp only at this
    rw [this]
    have:(j<i)↔(j<i+1):=by omega
    simp [this]
  unfold wpOp
  rw [ho]
  refine hstep' rd mp a w hs hrd hsz _ _ hQP (fun x w' rd' mp' hr hm hmem hrel hdst=>?_)
  refine ih (listed.setIfInBounds i true) _ w' (by simpa using hls) ?_ ?_ (by rw [qdd];exact hsz) ⟨rd',mp',⟨fun t=>?_,?_,?_⟩,hrd.step hr hm⟩
  ·have hl2:listed[i]=false:=by simpa [hil] using hli
   have hc:=Array.count_set (xs:=listed) (i:=i) (a:=true) (b:=false) hil
   rw [Array.setIfInBounds,dif_pos hil,hc,hl2]
   have:0<listed.count false:=Array.count_pos_iff.2 (by rw [← hl2];exact Array.getElem_mem hil)
   simp
   omega
  ·intro j o' ho' hj e he hb
   by_cases hji:j=i
   ·subst hji
    rw [hol] at ho';cases ho'
    exact getD_set_true (hedges e he hb)
   ·rw [hS' j hji] at hj
    exact getD_set_true (hcl j o' ho' hj e he hb)
  ·by_cases hd:o.dst=some t
   ·have hlt:=hdst t hd
    have hget:(stateAt L 0 (fun q=>(listed.setIfInBounds i true).getD q false) s).get t=p.v:=by
     rw [qik t L 0 _ (fun j=>decide (j<i+1)) s s rfl (fun j x hx hdx=>by rw [zn];exact agree' j x hx (hcld j x t hx hdx hd)),hsi,qoi,zb hd]
    rw [hget]
    have:(a.put o.dst x).tmps.getD t undef=x:=by rw [hd];simp [Act.put,hlt]
    rw [this]
    exact hrel
   ·have hget:(stateAt L 0 (fun q=>(listed.setIfInBounds i true).getD q false) s).get t=(stateAt L 0 (fun q=>listed.getD q false) s).get t:=by
     refine qik t L 0 _ _ s s rfl (fun j x hx hdx=>?_)
     rw [zn]
     refine hS' j (fun e=>?_)
     subst e
     rw [hp] at hx;cases hx
     exact hd hdx
    rw [hget]
    have:(a.put o.dst x).tmps.getD t undef=a.tmps.getD t undef:=by
     cases hdd:o.dst with
     | none=>rfl
     | some d=>
      simp only [Act.put,zx]
      rw [xi (fun e=>hd (by rw [hdd,e]))]
    rw [this]
    exact (hs.slots t).mono hr hm
  ·cases o.dst <;> exact hs.defers
  ·cases hw:p.wr with
   | true=>
    have hmm:=qew L 0 (fun q=>(listed.setIfInBounds i true).getD q false) (fun j=>decide (j<i+1)) s s rfl rfl (fun j x hx hwx=>by rw [zn];exact agree' j x hx (hclm hw j x hx hwx))
    rw [hmm.1,hmm.2,hsi]
    simp only [hw,cond_true] at hmem
    simpa [after,hw] using hmem
   | false=>
    have hmm:=qew L 0 (fun q=>(listed.setIfInBounds i true).getD q false) (fun q=>listed.getD q false) s s rfl rfl (fun j x hx hwx=>by
     rw [zn]
     refine hS' j (fun e=>?_)
     subst e
     rw [hp] at hx;cases hx
     rw [hw] at hwx;cases hwx)
    rw [hmm.1,hmm.2]
    simpa [hw] using hmem
theorem jfr {E:Env} {Q:Exit→Act→World→Prop} {ops:Array Oper} {s:ASt} {L:List (Oper × Stp)} (hLo:L.map (·.1)=ops.toList)
  (hst:∀ (i:Nat) x,L[i]?=some x→∀ S,Adm ops L.length S i→StepS E ops (stateAt L 0 S s) x.1 x.2)
  (hord:qbs ops L=true) (hfin:∀ rd mp a w,SR E.c rd mp (stateAt L 0 (fun _=>true) s) a w→Base E rd mp→a.tmps.size=E.fn.ntmps→Q .normal a w) :
  ∀ (fuel:Nat) (listed:Array Bool) (a:Act) (w:World),listed.size=ops.size→listed.count false≤fuel→
   (∀ j o,ops.toList[j]?=some o→listed.getD j false=true→∀ e∈o.after,Region.binds .any e=true→listed.getD e.on false=true)→
   a.tmps.size=E.fn.ntmps→(∃ rd mp,SR E.c rd mp (stateAt L 0 (fun i=>listed.getD i false) s) a w∧Base E rd mp)→wpAny E.P .any ops Q fuel listed a w:=
 qww (QP:=fun _=>True) trivial hLo (fun i x hx S hS=>(hst i x hx S hS).q _) hord hfin
mutual
def nms:AV→List Nat
 | .own r ..=>[r]
 | .ptr b _=>[b]
 | .eptr r ..=>[r]
 | .mapv b=>[b]
 | .ifc _ v=>nms v
 | .agg cs=>nmsL cs
 | .tup vs=>nmsL vs
 | .fn _ cs=>nmsL cs
 | .cnd _ v=>nms v
 | _=>[]
def nmsL:List AV→List Nat
 | []=>[]
 | x::l=>nms x++nmsL l
end
def qkc:AV→AV→Bool
 | .ptr ..,.own ..=>true
 | _,_=>false
def foot (s:ASt) (op:Op):List Nat:=
 match op with
 | .store _ a x=>nms (ev s a)++(bif qkc (ev s a) (ev s x) then [] else nms (ev s x))
 | op=>op.operands.toList.flatMap fun x=>nms (ev s x)
theorem jfs {s s':ASt} (op:Op) (h:∀ x∈op.operands,ev s x=ev s' x):foot s op=foot s' op:=by
 unfold foot
 split
 ·rename_i t a x
  rw [h a (by simp [Op.operands]),h x (by simp [Op.operands])]
 ·simp only [List.flatMap_def]
  rw [xg fun x hx=>by rw [h x (by simpa using hx)]]
def Agree (l:List Nat) (st st':List (Nat × SO)):Prop:=∀ x∈l,look st' x=look st x
theorem Agree.mono {l l':List Nat} {st st':List (Nat × SO)} (h:Agree l st st') (hs:∀ x∈l',x∈l):Agree l' st st':=fun x hx=>h x (hs x hx)
variable {T:Nat→TI} {C:Cfg} {st st':List (Nat × SO)}
theorem qbe {x:AV} (h:Agree (nms x) st st'):strip st' x=strip st x:=by
 cases x <;> try rfl
 rename_i r i e n
 simp only [strip]
 rw [h r (by simp [nms])]
theorem qbp {x:AV} (h:Agree (nms x) st st'):jh st' x=jh st x:=by
 cases x <;> try rfl
 rename_i r i e n
 simp only [jh]
 rw [h r (by simp [nms])]
theorem jft (x:AV):∀ q∈nms (strip st x),q∈nms x:=by
 intro q hq
 cases x with
 | cnd b y=>simpa only [nms,strip] using hq
 | own r i e n=>
  simp only [strip] at hq
  split at hq
  ·simp [nms] at hq
  ·exact hq
 | _=>exact hq
theorem qdp {r i:Nat} (h:look st' r=look st r):jx st' r i=jx st r i:=by
 simp only [jx,h]
theorem qmc:∀ {l:List AV},Agree (nmsL l) st st'→qap st' l=qap st l
 | [],_=>rfl
 | x::l,h=>by
  have ih:=qmc (l:=l) (h.mono (fun q hq=>by simp only [nmsL,zaj];exact .inr hq))
  cases x with
  | own r i e n=>
   have hr:=h r (by simp [nmsL,nms])
   simp only [qap,qdp (i:=i) hr,hr,ih]
  | _=>simp only [qap,ih]
theorem jfu {t:TypeId} {x:AV} (h:Agree (nms x) st st'):qgi T st' t x=qgi T st t x:=by
 cases x <;> try rfl
 ·rename_i b o
  simp only [qgi,h b (by simp [nms])]
 ·rename_i r i e n sz k o
  simp only [qgi,qdp (i:=i) (h r (by simp [nms]))]
theorem jfv {t:TypeId} {fi:Nat} {x:AV} (h:Agree (nms x) st st'):qgz T st' t fi x=qgz T st t fi x:=by
 cases x <;> try rfl
 rename_i r i e n sz k o
 simp only [qgz,qdp (i:=i) (h r (by simp [nms]))]
theorem jfw {t:TypeId} {x y:AV} (h:Agree (nms x) st st'):qgy T st' t x y=qgy T st t x y:=by
 cases x <;> cases y <;> try rfl
 rename_i r i e n _ _
 simp only [qgy,qdp (i:=i) (h r (by simp [nms]))]
theorem jfx {k:Kd} {x:AV} (h:Agree (nms x) st st'):lenO st' k x=lenO st k x:=by
 cases k <;> cases x <;> try rfl
 rename_i r i e n
 simp only [lenO,qdp (i:=i) (h r (by simp [nms]))]
theorem jfy {dst:Option Nat} {src to:TypeId} {x:AV} (h:Agree (nms x) st st'):qhb T C st' dst src to x=qhb T C st dst src to x:=by
 cases x <;> try rfl
 rename_i r i e n
 simp only [qhb,qdp (i:=i) (h r (by simp [nms]))]
theorem qwx {x:AV} (h:Agree (nms x) st st'):qhx st' x=qhx st x:=by
 have key:∀ y:AV,Agree (nms y) st st'→qap st' [y]=qap st [y]:=fun y hy=>qmc (by simpa [nmsL] using hy)
 cases x <;> first|rfl|exact key _ h
theorem qom:∀ {ps:List (Nat × AV)},(∀ p∈ps,Agree (nms p.2) st st')→qev st' ps=qev st ps
 | [],_=>rfl
 | (i,x)::r,h=>by
  simp only [qev,qwx (h (i,x) (by simp)),qom (ps:=r) (fun p hp=>h p (by simp [hp]))]
theorem jfz {t:TypeId} {ps:List (Nat × AV)} (h:∀ p∈ps,Agree (nms p.2) st st'):qha T st' t ps=qha T st t ps:=by
 simp only [qha,qom h]
theorem jga {t:TypeId} {len:Nat} {ps:List (Nat × AV)} (h:∀ p∈ps,Agree (nms p.2) st st'):qed T st' t len ps=qed T st t len ps:=by
 simp only [qed,qom h]
def OLoc (st st':List (Nat × SO)) (wr:List Nat):OR→OR→Prop
 | .ok ob v,r'=>r'=.ok ob v
 | .mem ob v st1 nx1,r'=>∃ st1',r'=.mem ob v st1' nx1∧(∀ x∈wr,look st1' x=look st1 x)∧∀ x,x ∉ wr→look st1' x=look st' x∧look st1 x=look st x
 | .call f args,r'=>r'=.call f args
 | .bad,_=>True
theorem OLoc.also {wr:List Nat} {r r':OR} {p:Option DP} (h:OLoc st st' wr r r'):OLoc st st' wr (also p r) (also p r'):=by
 cases r with
 | ok ob v=>cases h;rfl
 | mem ob v st1 nx1=>
  obtain ⟨st1',rfl,h1,h2⟩:=h
  exact ⟨st1',rfl,h1,h2⟩
 | call f args=>trivial
 | bad=>trivial
theorem OLoc.same {wr:List Nat} {r:OR} (h:∀ ob v st1 nx1,r≠.mem ob v st1 nx1):OLoc st st' wr r r:=by
 cases r with
 | mem ob v st1 nx1=>exact absurd rfl (h ob v st1 nx1)
 | _=>first|rfl|trivial
theorem qkd {r:Nat} {l:List Nat} {x:Nat}:look (qbh st r l) x=if x=r then look (qbh st r l) r else look st x:=by
 by_cases hx:x=r
 ·subst hx;simp
 ·rw [za hx]
  cases l with
  | nil=>rfl
  | cons q qs=>
   simp only [qbh]
   split
   ·rw [qk,za hx]
   ·rfl
theorem qon {r:Nat} {l:List Nat} (h:look st' r=look st r):look (qbh st' r l) r=look (qbh st r l) r:=by
 cases l with
 | nil=>exact h
 | cons q qs=>
  simp only [qbh,h]
  split
  ·rw [qk,qk,zb rfl,zb rfl,h]
  ·exact h
theorem Agree.addIds {ns:List Nat} {r:Nat} {l:List Nat} (h:Agree ns st st') (hr:look st' r=look st r):Agree ns (qbh st r l) (qbh st' r l):=by
 intro x hx
 rw [qkd,qkd (st:=st),qon hr]
 split
 ·rfl
 ·exact h x hx
theorem qoo {r i ep n:Nat} {f:Nat→List AV} {x:Nat}:look (qan st r i ep n f) x=if x=r then look (qan st r i ep n f) r else look st x:=by
 by_cases hx:x=r
 ·subst hx;simp
 ·rw [za hx]
  simp only [qan]
  split
  ·rw [qk,za hx]
  ·rw [qk,za hx]
  ·rfl
theorem jgb {r i ep n:Nat} {f:Nat→List AV} (h:look st' r=look st r):look (qan st' r i ep n f) r=look (qan st r i ep n f) r:=by
 simp only [qan,h]
 split
 ·rw [qk,qk,zb rfl,zb rfl,h]
 ·rw [qk,qk,zb rfl,zb rfl,h]
 ·exact h
theorem qop {r i ep n:Nat} {f:Nat→List AV} {l:List Nat} {wr:List Nat} (hr:look st' r=look st r) (hw:r∈wr) (hag:Agree wr st st') :
  (∀ x∈wr,look (qan (qbh st' r l) r i ep n f) x=look (qan (qbh st r l) r i ep n f) x) ∧
  ∀ x,x ∉ wr→look (qan (qbh st' r l) r i ep n f) x=look st' x∧look (qan (qbh st r l) r i ep n f) x=look st x:=by
 refine ⟨fun x hx=>?_,fun x hx=>?_⟩
 ·rw [qoo,qoo (st:=qbh st r l),jgb (qon hr)]
  split
  ·rfl
  ·rename_i hne
   rw [qkd,qkd (st:=st),za hne,za hne]
   exact hag x hx
 ·have hne:x≠r:=fun e=>hx (e ▸ hw)
  rw [qoo,qoo (st:=qbh st r l),za hne,za hne,qkd,qkd (st:=st),za hne,za hne]
  exact ⟨rfl,rfl⟩
theorem jgc {nx:Nat} {t:TypeId} {a x:AV} (ha:Agree (nms a) st st') (hx:Agree (nmsL (cellsOf x)) st st'):OLoc st st' (nms a) (qhy T st nx t a x) (qhy T st' nx t a x):=by
 cases a with
 | ptr b o=>
  have hb:=ha b (by simp [nms])
  simp only [qhy,qlt,qnw,hb,qmc hx]
  split
  ·rename_i ty cs hl
   cases (Nat.ble 1 (T t).size && Nat.beq (cellsOf x).length (T t).size && (cellsOf x).all AV.oneOwn && Nat.ble (o+(cellsOf x).length) cs.length) with
   | false=>trivial
   | true=>
    refine ⟨_,rfl,fun y hy=>?_,fun y hy=>?_⟩
    ·simp only [nms,xm] at hy
     subst hy
     rw [qk,qk,zb rfl,zb rfl,hb]
    ·simp only [nms,xm] at hy
     rw [qk,qk,za hy,za hy]
     exact ⟨rfl,rfl⟩
  ·trivial
 | eptr r i e n sz' k o=>
  have hr:=ha r (by simp [nms])
  have hrow:jx (qbh st' r (qec (cellsOf x))) r i=jx (qbh st r (qec (cellsOf x))) r i:=qdp (qon hr)
  have hob:qap (qbh st' r (qec (cellsOf x))) (cellsOf x)=qap (qbh st r (qec (cellsOf x))) (cellsOf x):=qmc (hx.addIds hr)
  simp only [qhy,qlt,qnw,hrow,hob]
  split
  ·rename_i ob R hl
   cases (Nat.ble 1 (T t).size && Nat.beq sz' R.sz && Nat.beq (cellsOf x).length (T t).size && (cellsOf x).all (qdn R.ids) && Nat.ble (o+(cellsOf x).length) R.sz) with
   | false=>trivial
   | true=>exact ⟨_,rfl,qop hr (by simp [nms]) ha⟩
  ·trivial
 | _=>trivial
theorem qwy {nx:Nat} {t:TypeId} {b o r i e n:Nat} (ha:Agree (nms (.ptr b o)) st st'):OLoc st st' (nms (.ptr b o)) (qlu T st nx t b o r i e n) (qlu T st' nx t b o r i e n):=by
 have hb:=ha b (by simp [nms])
 simp only [qlu,hb]
 split
 ·rename_i ty cs hl
  cases (Nat.beq (T t).size 1 && Nat.ble (o+1) cs.length) with
  | false=>trivial
  | true=>
   refine ⟨_,rfl,fun y hy=>?_,fun y hy=>?_⟩
   ·simp only [nms,xm] at hy
    subst hy
    rw [qk,qk,zb rfl,zb rfl,hb]
   ·simp only [nms,xm] at hy
    rw [qk,qk,za hy,za hy]
    exact ⟨rfl,rfl⟩
 ·trivial
theorem qke {nx:Nat} {o:SO}:(∀ x∈[nx],look ((nx,o)::st') x=look ((nx,o)::st) x)∧∀ x,x ∉ [nx]→look ((nx,o)::st') x=look st' x∧look ((nx,o)::st) x=look st x:=by
 refine ⟨fun x hx=>?_,fun x hx=>?_⟩
 ·simp only [xm] at hx
  subst hx
  rw [qq,qq,zb rfl,zb rfl]
 ·simp only [xm] at hx
  rw [qq,qq,za (Ne.symm hx),za (Ne.symm hx)]
  exact ⟨rfl,rfl⟩
def appW (nx:Nat):AV→List Nat
 | .own r ..=>[r]
 | _=>[nx]
theorem jgd {sl:List (Nat × AV)} {nx:Nat} {t:TypeId} {x y:AV} (hx:Agree (nms x) st st') (hy:Agree (nms y) st st') :
  OLoc st st' (appW nx x) (qfm T ⟨sl,st,nx⟩ t x y) (qfm T ⟨sl,st',nx⟩ t x y):=by
 cases x with
 | own r i ep n=>
  have hr:=hx r (by simp [nms])
  have hag:Agree [r] st st':=fun q hq=>by simp only [xm] at hq;subst hq;exact hr
  cases y with
  | slc sz m g=>
   simp only [qfm,qdp (i:=i) hr]
   split
   ·rename_i e ob R hk hl
    cases (Nat.beq (T e).size sz && Nat.beq e R.e && Nat.beq sz R.sz && Nat.ble 1 sz && Nat.beq (T e).zero.length sz) with
    | false=>trivial
    | true=>exact ⟨_,rfl,qop (l:=[]) hr (by simp [appW]) hag⟩
   ·trivial
  | own r' i' ep' m=>
   have hr':=hy r' (by simp [nms])
   simp only [qfm,qdp (i:=i') hr']
   split
   ·rename_i ob' R' hl'
    rw [qdp (i:=i) (qon (l:=R'.ids) hr)]
    split
    ·rename_i e ob R hk hl
     cases (Nat.beq (T e).size R.sz && Nat.beq e R.e && Nat.beq R'.sz R.sz && Nat.ble 1 R.sz && Nat.beq (T e).zero.length R.sz && !Nat.beq r r' && R'.ids.all (fun q=>R.ids.any (Nat.beq q))) with
     | false=>trivial
     | true=>exact ⟨_,rfl,qop hr (by simp [appW]) hag⟩
    ·trivial
   ·trivial
  | nils=>
   simp only [qfm,qdp (i:=i) hr]
   exact OLoc.same (fun ob v st1 nx1 h=>by split at h <;> first|(cases h;done)|(rename_i e ob R hk hl;cases hc:(Nat.beq (T e).size R.sz && Nat.beq e R.e && Nat.ble 1 R.sz && Nat.beq (T e).zero.length R.sz) <;> simp [hc] at h))
  | _=>trivial
 | nils=>
  cases y with
  | slc sz m g=>
   simp only [qfm]
   split
   ·rename_i e hk
    cases (Nat.beq (T e).size sz && Nat.ble 1 sz && Nat.beq (T e).zero.length sz) with
    | false=>trivial
    | true=>exact ⟨_,rfl,qke⟩
   ·trivial
  | own r' i' ep' m=>
   have hr':=hy r' (by simp [nms])
   simp only [qfm,qdp (i:=i') hr']
   split
   ·rename_i e ob' R' hk hl'
    cases (Nat.beq (T e).size R'.sz && Nat.ble 1 R'.sz && Nat.beq (T e).zero.length R'.sz) with
    | false=>trivial
    | true=>exact ⟨_,rfl,qke⟩
   ·trivial
  | _=>trivial
 | _=>trivial
theorem jge {sl:List (Nat × AV)} {nx:Nat} {t:TypeId} {x y:AV}:OLoc st st' [nx] (qjr T ⟨sl,st,nx⟩ t x y) (qjr T ⟨sl,st',nx⟩ t x y):=by
 cases x <;> try trivial
 cases y <;> try trivial
 simp only [qjr]
 split
 ·rename_i e hk
  cases (Nat.beq (T e).zero.length (T e).size && Nat.ble 1 (T e).size && (T e).zero.all (fun y=>y.one && y.pure1)) with
  | false=>trivial
  | true=>exact ⟨_,rfl,qke⟩
 ·trivial
theorem qwz {sl:List (Nat × AV)} {nx:Nat} {ty:TypeId} {cs:List AV} {ob:Option DP}:OLoc st st' [nx] (boxO ⟨sl,st,nx⟩ ty cs ob) (boxO ⟨sl,st',nx⟩ ty cs ob):=⟨_,rfl,qke⟩
theorem jgf {sl:List (Nat × AV)} {nx:Nat} {dst:Option Nat} {v:AV}:OLoc st st' [nx] (qjs C ⟨sl,st,nx⟩ dst v) (qjs C ⟨sl,st',nx⟩ dst v):=by
 unfold qjs
 split
 ·exact ⟨_,rfl,qke⟩
 ·exact rfl
theorem jgg {l:List AV} {x:AV}:∀ {o q:Nat},q∈nmsL (l.set o x)→q∈nmsL l∨q∈nms x:=by
 induction l with
 | nil=>intro o q h;simp [nmsL] at h
 | cons y l ih=>
  intro o q h
  cases o with
  | zero=>
   simp only [List.set_cons_zero,nmsL,zaj] at h ⊢
   rcases h with h|h
   ·exact .inr h
   ·exact .inl (.inr h)
  | succ o=>
   simp only [List.set_cons_succ,nmsL,zaj] at h ⊢
   rcases h with h|h
   ·exact .inl (.inl h)
   ·rcases ih h with h|h
    ·exact .inl (.inr h)
    ·exact .inr h
theorem qxa:∀ {xs l:List AV} {o q:Nat},q∈nmsL (qbn l o xs)→q∈nmsL l∨q∈nmsL xs
 | [],l,o,q,h=>.inl h
 | x::xs,l,o,q,h=>by
  simp only [qbn] at h
  rcases qxa h with h|h
  ·rcases jgg h with h|h
   ·exact .inl h
   ·exact .inr (by simp [nmsL,h])
  ·exact .inr (by simp [nmsL,h])
theorem qxb {x:AV} {q:Nat} (h:q∈nmsL (cellsOf x)):q∈nms x:=by
 cases x with
 | agg cs=>simpa only [cellsOf,nms] using h
 | _=>simpa only [cellsOf,nmsL,zaq] using h
theorem qxc {place:Nat→Option (Nat × Nat)}:∀ {ps:List (Nat × AV)} {cs out:List AV},qdg place cs ps=some out→∀ q∈nmsL out,q∈nmsL cs∨∃ p∈ps,q∈nms p.2
 | [],cs,out,h,q,hq=>by simp only [qdg,Option.some.injEq] at h;subst h;exact .inl hq
 | (i,x)::r,cs,out,h,q,hq=>by
  simp only [qdg] at h
  split at h
  ·rename_i off size hp
   rw [qer] at h
   cases hc:(qeu x && Nat.beq (cellsOf x).length size && Nat.ble (off+size) cs.length) with
   | false=>simp [hc] at h
   | true=>
    simp only [hc,cond_true] at h
    rcases qxc h q hq with h|⟨p,hp,h⟩
    ·rcases qxa h with h|h
     ·exact .inl h
     ·exact .inr ⟨(i,x),by simp,qxb h⟩
    ·exact .inr ⟨p,by simp [hp],h⟩
  ·cases h
theorem jgh {P:Program} (hT:∀ t,T t=tab P t) (t:TypeId):nmsL (T t).zero=[]:=by
 have key:∀ l:List Value,nmsL (l.map qes)=[]:=by
  intro l
  induction l with
  | nil=>rfl
  | cons v l ih=>
   have:nms (qes v)=[]:=by unfold qes;split <;> rfl
   simp only [xp,nmsL,this,ih,zaq]
 rw [hT]
 unfold tab
 split
 ·rename_i i d _ _
  simp only [qhw]
  split
  ·exact key _
  ·rfl
 ·rfl
theorem qxd {z:List AV} (h:nmsL z=[]):∀ n,nmsL (qdw z n)=[]
 | 0=>rfl
 | n+1=>by
  have app:∀ a b:List AV,nmsL (a++b)=nmsL a++nmsL b:=by
   intro a b
   induction a with
   | nil=>rfl
   | cons x a ih=>simp only [zac,nmsL,ih,xj]
  simp only [qdw,app,h,qxd h n,zaq]
theorem qxe {P:Program} (hT:∀ t,T t=tab P t) {sl:List (Nat × AV)} {nx:Nat} {t:TypeId} {len:Nat} {ps:List (Nat × AV)} (h:∀ p∈ps,Agree (nms p.2) st st') :
  OLoc st st' [nx] (qhz T ⟨sl,st,nx⟩ t len ps) (qhz T ⟨sl,st',nx⟩ t len ps):=by
 simp only [qhz]
 split
 ·rename_i e hk
  cases (Nat.ble 1 (T e).size && Nat.ble (len * (T e).size) 16777216 && Nat.beq (T e).zero.length (T e).size) with
  | false=>trivial
  | true=>
   simp only [cond_true]
   split
   ·rename_i cs hf
    simp only [qer,jp]
    cases cs.all (qdn (addIds [] (qec cs))) with
    | false=>trivial
    | true=>
     simp only [cond_true]
     rw [qom h,qmc (l:=cs) (fun q hq=>?_)]
     ·exact ⟨_,rfl,qke⟩
     ·rcases qxc hf q hq with h'|⟨p,hp,h'⟩
      ·rw [qxd (jgh hT e)] at h';simp at h'
      ·exact (h p hp q h').symm
   ·trivial
 ·trivial
theorem jgi {t:TypeId} {x:AV} {lo hi mx:Option AV}:∀ ob v st1 nx1,qgx T t x lo hi mx≠.mem ob v st1 nx1:=by
 intro ob v st1 nx1 h
 rcases qwi (T:=T) t x lo hi mx with h'|⟨ob',v',h'⟩ <;> rw [h'] at h <;> cases h
theorem jgj {sl:List (Nat × AV)} {nx:Nat} {dst:Option Nat} {t:TypeId} {x:AV} {lo hi mx:Option AV} (hx:Agree (nms x) st st') :
  OLoc st st' (nms x) (qia T C ⟨sl,st,nx⟩ dst t x lo hi mx) (qia T C ⟨sl,st',nx⟩ dst t x lo hi mx):=by
 cases x with
 | own r i e n=>
  have hr:=hx r (by simp [nms])
  simp only [qia]
  cases qqw C dst with
  | true=>
   simp only [cond_true]
   have hag:Agree [r] st st':=fun q hq=>by simp only [xm] at hq;subst hq;exact hr
   have key:∀ (a:Int) (lo':Bool) (ob:Option DP) (R:RowV) (m:Nat) (f:Nat→List AV),OLoc st st' (nms (.own r i e n)) (.mem ob (.own r i (R.ep+1) m) (qan st r i (R.ep+1) m f) nx) (.mem ob (.own r i (R.ep+1) m) (qan st' r i (R.ep+1) m f) nx):=
    fun _ _ _ _ _ _=>⟨_,rfl,qop (l:=[]) hr (by simp [nms]) (by simpa [nms] using hag)⟩
   unfold cutO
   split
   ·rename_i h1
    cases h1
    simp only [qdp (i:=i) hr]
    split
    ·rename_i el ob R hk hl
     cases (Nat.beq (T el).size R.sz && Nat.ble 1 R.sz) with
     | false=>trivial
     | true=>exact key 0 true _ R _ _
    ·trivial
   ·rename_i h1
    cases h1
    simp only [qdp (i:=i) hr]
    split
    ·rename_i el ob R hk hl
     cases (Nat.beq (T el).size R.sz && Nat.ble 1 R.sz) with
     | false=>trivial
     | true=>exact key 0 true _ R _ _
    ·trivial
   ·trivial
  | false=>
   simp only [cond_false,hr]
   split
   ·rename_i el sz ep m f hl
    split
    ·rename_i ob v hs
     refine ⟨_,rfl,fun y hy=>?_,fun y hy=>?_⟩
     ·simp only [nms,xm] at hy
      subst hy
      rw [qk,qk,zb rfl,zb rfl,hr]
     ·simp only [nms,xm] at hy
      rw [qk,qk,za hy,za hy]
      exact ⟨rfl,rfl⟩
    ·trivial
   ·trivial
 | _=>simp only [qia];exact OLoc.same jgi
def argW (nx:Nat):List AV→List Nat
 | x::_=>appW nx x
 | []=>[]
def tgt (s:ASt):Op→List Nat
 | .assign _=>[s.nx]
 | .alloc _=>[s.nx]
 | .box _ _=>[s.nx]
 | .buildSlice _ _ _=>[s.nx]
 | .makeSlice _ _ _=>[s.nx]
 | .store _ a _=>nms (strip s.st (ev s a))
 | .slice _ x _ _ _=>nms (strip s.st (ev s x))
 | .call c=>argW s.nx (c.args.toList.map fun x=>strip s.st (ev s x))
 | _=>[]
theorem qoq:∀ {l:List AV},(∀ x∈l,Agree (nms x) st st')→qfk st' l=qfk st l
 | [],_=>rfl
 | x::l,h=>by simp only [qfk,qbp (h x (by simp)),qoq (l:=l) (fun y hy=>h y (by simp [hy]))]
theorem jgk {k:Kd} {x:AV}:∀ ob v st1 nx1,lenO st k x≠.mem ob v st1 nx1:=by
 intro ob v st1 nx1 h
 unfold lenO at h
 split at h <;> first|(cases h;done)|(split at h <;> cases h)
theorem qxf {b:Bool} {x y:AV}:∀ ob v st1 nx1,minO b x y≠.mem ob v st1 nx1:=by
 intro ob v st1 nx1 h
 unfold minO at h
 split at h <;> cases h
theorem jgl {sl:List (Nat × AV)} {nx:Nat} {b:Builtin} {ts:List TypeId} {args:List AV} (h:∀ x∈args,Agree (nms x) st st') :
  OLoc st st' (argW nx args) (qhc T ⟨sl,st,nx⟩ b ts args) (qhc T ⟨sl,st',nx⟩ b ts args):=by
 unfold qhc
 split
 ·rename_i t x
  simp only [jfx (h x (by simp))]
  exact OLoc.same jgk
 ·rename_i t t' x y
  cases Nat.beq t t' with
  | false=>trivial
  | true=>exact jgd (h x (by simp)) (h y (by simp))
 ·exact OLoc.same qxf
 ·exact OLoc.same qxf
 ·trivial
def isM:OR→Bool
 | .mem ..=>true
 | _=>false
theorem qdi (c:Bool) (a b:OR):isM (bif c then a else b)=bif c then isM a else isM b:=by cases c <;> rfl
theorem jgm {c:Bool} {a:OR} (h:isM a=false):isM (bif c then a else .bad)=false:=by cases c;rfl;exact h
theorem qco (p:Option DP) (r:OR):isM (also p r)=isM r:=by cases r <;> rfl
theorem qor (w:Bool) (k:IntKind) (n:Int):isM (qgh w k n)=false:=by unfold qgh;cases w <;> rfl
theorem qos (ti:TI) (cs:List AV):isM (qdc ti cs)=false:=by
 unfold qdc
 simp only [qdi]
 cases qck ti.kd with
 | true=>cases Nat.ble ti.size cs.length <;> rfl
 | false=>
  cases Nat.beq ti.size 1 with
  | false=>rfl
  | true=>cases cs <;> rfl
theorem OLoc.quiet {wr:List Nat} {r:OR} (h:isM r=false):OLoc st st' wr r r:=OLoc.same fun ob v st1 nx1 e=>by rw [e] at h;cases h
theorem jgn {t:TypeId} {x:AV}:isM (qgi T st t x)=false:=by
 unfold qgi
 split
 ·exact qos _ _
 ·split
  ·exact qos _ _
  ·rfl
 ·split
  ·simp only [qdi,qco,qos]
   cases Nat.beq _ _ <;> rfl
  ·rfl
 ·rfl
theorem jgo {w:Bool} {op:BinOp} {k:IntKind} {a b:Int}:isM (intO w op k a b)=false:=by cases op <;> first|exact qor _ _ _|rfl
theorem jgp {op:BinOp} {a b:List UInt8}:isM (strO op a b)=false:=by cases op <;> rfl
theorem qxg {neg:Bool} {t:TypeId} {xs ys:List AV}:isM (aggO T neg t xs ys)=false:=by
 unfold aggO
 split
 ·split <;> rfl
 ·rfl
theorem jgq {dst:Option Nat} {op:BinOp} {t:TypeId} {x y:AV}:isM (binO T C dst op t x y)=false:=by
 unfold binO
 split
 ·split
  ·rw [qco];exact qor _ _ _
  ·rfl
  ·exact jgm jgo
 ·exact jgp
 ·split <;> rfl
 ·split
  ·exact qxg
  ·exact qxg
  ·rfl
 ·rfl
theorem jgr {x y:AV}:isM (andP x y)=false:=by unfold andP;split <;> rfl
theorem jgs {x y:AV}:isM (orP x y)=false:=by unfold orP;split <;> rfl
theorem jgt {x y z:AV}:isM (qlr x y z)=false:=by unfold qlr;split <;> rfl
theorem jgu {dst:Option Nat} {op:UnOp} {x:AV}:isM (unO C dst op x)=false:=by
 unfold unO
 split
 ·rfl
 ·exact qor _ _ _
 ·rfl
theorem jgv {x:AV}:isM (qib x)=false:=by unfold qib;split <;> rfl
theorem jgw {dst:Option Nat} {src to:TypeId} {x:AV}:isM (qhb T C st dst src to x)=false:=by
 unfold qhb
 rw [qdi]
 cases Nat.ble 1 (T src).size with
 | false=>rfl
 | true=>
  simp only [cond_true]
  split
  ·rw [qdi];cases (_ && _:Bool) <;> rfl
  ·split
   ·rw [qdi];cases (_ && _:Bool) <;> rfl
   ·rfl
  ·rw [qdi];cases qfl T src to <;> rfl
  ·split
   ·exact qor _ _ _
   ·rfl
  ·split <;> rfl
  ·rfl
theorem jgx {t:TypeId} {ps:List (Nat × AV)}:isM (qha T st t ps)=false:=by
 unfold qha
 split
 ·rw [qdi]
  cases (_ && _:Bool) with
  | false=>rfl
  | true=>simp only [cond_true];split <;> rfl
 ·rw [qdi]
  cases (_ && _:Bool) with
  | false=>rfl
  | true=>simp only [cond_true];split <;> rfl
 ·rfl
theorem jgy (K:List AV→OR) (h:∀ l,isM (K l)=false) (l:List AV):isM (qfj l K)=false:=by rw [qer];exact h l
theorem jgz {t:TypeId} {len:Nat} {ps:List (Nat × AV)}:isM (qed T st t len ps)=false:=by
 unfold qed
 split
 ·rw [qdi]
  cases (_ && _:Bool) with
  | false=>rfl
  | true=>
   simp only [cond_true]
   split
   ·refine jgy _ (fun l=>?_) _
    rw [qdi,jp]
    cases List.all l _ <;> rfl
   ·rfl
 ·rfl
theorem jha {t:TypeId} {i:Nat} {x:AV}:isM (qlv T t i x)=false:=by
 unfold qlv
 split
 ·split
  ·split
   ·exact qos _ _
   ·rfl
  ·rfl
 ·rfl
theorem jhb {t:TypeId} {i:Nat} {x:AV}:isM (qgz T st t i x)=false:=by
 unfold qgz
 split
 ·split
  ·rw [qdi]
   cases Nat.ble 1 _ with
   | false=>rfl
   | true=>
    simp only [cond_true]
    split
    ·rfl
    ·split <;> rfl
    ·rfl
    ·rfl
  ·rfl
 ·rfl
theorem jhc {t:TypeId} {x y:AV}:isM (qgy T st t x y)=false:=by
 unfold qgy
 split
 ·split
  ·rw [qdi];cases (_ && _:Bool) <;> rfl
  ·rfl
 ·split
  ·rw [qdi];cases (_ && _:Bool) <;> rfl
  ·rfl
 ·split
  ·rw [qdi];cases Nat.ble _ _ <;> rfl
  ·rfl
 ·rfl
theorem jhd {t:TypeId} {x y:AV}:isM (qls T t x y)=false:=by
 unfold qls
 split
 ·split <;> rfl
 ·split
  ·rw [qdi];cases (_ && _:Bool) <;> rfl
  ·rfl
 ·rfl
theorem jhe {i:Nat} {x:AV}:isM (qlw i x)=false:=by
 unfold qlw
 split
 ·split <;> rfl
 ·rfl
theorem Agree.strip {x:AV} (h:Agree (nms x) st st'):Agree (nms (strip st x)) st st':=h.mono (jft x)
theorem jhf {P:Program} (hT:∀ t,T t=tab P t) {sl:List (Nat × AV)} {nx:Nat} {dst:Option Nat} {t:TypeId} {len:Nat} {ps:List (Nat × AV)} (h:∀ p∈ps,Agree (nms p.2) st st') :
  OLoc st st' [nx] (qjq T C ⟨sl,st,nx⟩ dst t len ps) (qjq T C ⟨sl,st',nx⟩ dst t len ps):=by
 unfold qjq
 split
 ·exact qxe hT h
 ·cases C.lit with
  | true=>exact qxe hT h
  | false=>simp only [cond_false,jga h];exact OLoc.quiet jgz
theorem jhg {P:Program} (hT:∀ t,T t=tab P t) {sl:List (Nat × AV)} {nx:Nat} {dst:Option Nat} (op:Op) (h:∀ x∈op.operands,Agree (nms (ev ⟨sl,st,nx⟩ x)) st st') :
  OLoc st st' (tgt ⟨sl,st,nx⟩ op) (aop T C ⟨sl,st,nx⟩ dst op) (aop T C ⟨sl,st',nx⟩ dst op):=by
 have hev:∀ x,ev ⟨sl,st',nx⟩ x=ev ⟨sl,st,nx⟩ x:=fun x=>by cases x <;> rfl
 cases op with
 | move x=>simp only [aop,hev];rfl
 | assign x=>simp only [aop,hev];exact jgf
 | pick x y z=>
  have hx:=h x (by simp [Op.operands])
  simp only [aop,hev,qbe hx,qbp hx]
  split
  ·exact OLoc.quiet (by rw [qco,jgr])
  ·exact OLoc.quiet (by rw [qco,jgs])
  ·exact OLoc.quiet (by rw [qco,jgt])
 | alloc e=>
  simp only [aop]
  cases (_ && _:Bool) with
  | false=>trivial
  | true=>exact qwz
 | box e x=>
  have hx:=h x (by simp [Op.operands])
  simp only [aop,hev,qbe hx,qbp hx,qwx hx.strip]
  cases qeu _ with
  | false=>trivial
  | true=>exact OLoc.also qwz
 | build t ps=>
  have hp:∀ p∈ps.toList,Agree (nms (ev ⟨sl,st,nx⟩ p.2)) st st':=fun p hp=>h p.2 (by simp only [Op.operands];simp;exact ⟨p.1,by simpa using hp⟩)
  have e2:(ps.toList.map fun p=>(p.1,strip st' (ev ⟨sl,st,nx⟩ p.2)))=ps.toList.map fun p=>(p.1,strip st (ev ⟨sl,st,nx⟩ p.2)):=xg fun p hp'=>by rw [qbe (hp p hp')]
  simp only [aop,hev,e2]
  rw [qoq (st:=st) (st':=st') (fun x hx=>by obtain ⟨p,hp',rfl⟩:=List.mem_map.1 hx;exact hp p hp'),jfz (st:=st) (st':=st') (fun x hx=>by obtain ⟨p,hp',rfl⟩:=List.mem_map.1 hx;exact (hp p hp').strip)]
  exact OLoc.quiet (by rw [qco,jgx])
 | buildSlice t n ps=>
  have hp:∀ p∈ps.toList,Agree (nms (ev ⟨sl,st,nx⟩ p.2)) st st':=fun p hp=>h p.2 (by simp only [Op.operands];simp;exact ⟨p.1,by simpa using hp⟩)
  have e2:(ps.toList.map fun p=>(p.1,strip st' (ev ⟨sl,st,nx⟩ p.2)))=ps.toList.map fun p=>(p.1,strip st (ev ⟨sl,st,nx⟩ p.2)):=xg fun p hp'=>by rw [qbe (hp p hp')]
  simp only [aop,hev,e2]
  rw [qoq (st:=st) (st':=st') (fun x hx=>by obtain ⟨p,hp',rfl⟩:=List.mem_map.1 hx;exact hp p hp')]
  exact OLoc.also (jhf hT (fun x hx=>by obtain ⟨p,hp',rfl⟩:=List.mem_map.1 hx;exact (hp p hp').strip))
 | load t x=>
  have hx:=h x (by simp [Op.operands])
  simp only [aop,hev,qbe hx,qbp hx,jfu hx.strip]
  exact OLoc.quiet (by rw [qco,jgn])
 | store t x y=>
  have hx:=h x (by simp [Op.operands])
  have hy:=h y (by simp [Op.operands])
  simp only [aop,hev,qbe hx,qbp hx,tgt]
  refine OLoc.also ?_
  have hx':=hx.strip
  generalize strip st (ev ⟨sl,st,nx⟩ x)=sx at hx' ⊢
  generalize ev ⟨sl,st,nx⟩ y=sy at hy ⊢
  cases hb:qkc sx sy with
  | true=>
   unfold qkc at hb
   split at hb
   ·simp only [qjp];exact qwy hx'
   ·cases hb
  | false=>
   have e:∀ st0,qjp T st0 nx t sx sy=also (jh st0 sy) (qhy T st0 nx t sx (strip st0 sy)):=by
    intro st0
    unfold qjp
    split
    ·simp [qkc] at hb
    ·rfl
   rw [e,e,qbe hy,qbp hy]
   exact OLoc.also (jgc hx' (hy.strip.mono fun q hq=>qxb hq))
 | nilCheck x=>
  have hx:=h x (by simp [Op.operands])
  simp only [aop,hev,qbe hx,qbp hx]
  exact OLoc.quiet (by rw [qco,jgv])
 | binOp op t x y yt=>
  have hx:=h x (by simp [Op.operands])
  have hy:=h y (by simp [Op.operands])
  simp only [aop,hev,qbe hx,qbp hx,qbe hy,qbp hy]
  exact OLoc.quiet (by rw [qco,qco,jgq])
 | unOp op t x=>
  have hx:=h x (by simp [Op.operands])
  simp only [aop,hev,qbe hx,qbp hx]
  exact OLoc.quiet (by rw [qco,jgu])
 | convert src t x=>
  have hx:=h x (by simp [Op.operands])
  simp only [aop,hev,qbe hx,qbp hx,jfy hx.strip]
  exact OLoc.quiet (by rw [qco,jgw])
 | makeFunc fn first captured=>
  simp only [aop]
  have hm:List.map (ev ⟨sl,st',nx⟩) captured.toList=List.map (ev ⟨sl,st,nx⟩) captured.toList:=xg fun x _=>hev x
  rw [hm]
  exact OLoc.quiet (by split <;> rfl)
 | makeSlice t x y=>
  have hx:=h x (by simp [Op.operands])
  have hy:=h y (by simp [Op.operands])
  simp only [aop,hev,qbe hx,qbp hx,qbe hy,qbp hy]
  exact OLoc.also (OLoc.also jge)
 | slice t x lo hi mx=>
  have hx:=h x (by simp [Op.operands])
  have e1:∀ y∈lo,Agree (nms (ev ⟨sl,st,nx⟩ y)) st st':=fun y hy=>h y (by cases lo <;> simp at hy;subst hy;simp [Op.operands])
  have e2:∀ y∈hi,Agree (nms (ev ⟨sl,st,nx⟩ y)) st st':=fun y hy=>h y (by cases hi <;> simp at hy;subst hy;simp [Op.operands])
  have e3:∀ y∈mx,Agree (nms (ev ⟨sl,st,nx⟩ y)) st st':=fun y hy=>h y (by cases mx <;> simp at hy;subst hy;simp [Op.operands])
  have f:∀ (l:Option Operand),(∀ y∈l,Agree (nms (ev ⟨sl,st,nx⟩ y)) st st')→l.map (ev ⟨sl,st',nx⟩)=l.map (ev ⟨sl,st,nx⟩)∧qnu st' (l.map (ev ⟨sl,st,nx⟩))=qnu st (l.map (ev ⟨sl,st,nx⟩))∧(l.map fun y=>strip st' (ev ⟨sl,st',nx⟩ y))=l.map fun y=>strip st (ev ⟨sl,st,nx⟩ y):=by
   intro l hl
   cases l with
   | none=>exact ⟨rfl,rfl,rfl⟩
   | some y=>exact ⟨by simp [hev],qbp (hl y rfl),by simp [hev,qbe (hl y rfl)]⟩
  simp only [aop]
  rw [(f lo e1).1,(f lo e1).2.1,(f lo e1).2.2,(f hi e2).1,(f hi e2).2.1,(f hi e2).2.2,(f mx e3).2.2,hev,qbe hx,qbp hx]
  exact OLoc.also (OLoc.also (OLoc.also (jgj hx.strip)))
 | fieldAddr t x i=>
  have hx:=h x (by simp [Op.operands])
  simp only [aop,hev,qbe hx,qbp hx,jfv hx.strip]
  exact OLoc.quiet (by rw [qco,jhb])
 | field t x i=>
  have hx:=h x (by simp [Op.operands])
  simp only [aop,hev,qbe hx,qbp hx]
  exact OLoc.quiet (by rw [qco,jha])
 | indexAddr t x i=>
  have hx:=h x (by simp [Op.operands])
  have hy:=h i (by simp [Op.operands])
  simp only [aop,hev,qbe hx,qbp hx,qbe hy,qbp hy,jfw hx.strip]
  exact OLoc.quiet (by rw [qco,qco,jhc])
 | index t x i=>
  have hx:=h x (by simp [Op.operands])
  have hy:=h i (by simp [Op.operands])
  simp only [aop,hev,qbe hx,qbp hx,qbe hy,qbp hy]
  exact OLoc.quiet (by rw [qco,qco,jhd])
 | extract x i=>
  have hx:=h x (by simp [Op.operands])
  simp only [aop,hev,qbe hx,qbp hx]
  exact OLoc.quiet (by rw [qco,jhe])
 | call cl=>
  obtain ⟨callee,⟨args⟩,ats⟩:=cl
  have ha:∀ x∈args,Agree (nms (ev ⟨sl,st,nx⟩ x)) st st':=fun x hx=>h x (by simp only [Op.operands,Call.operands];simp;exact .inr hx)
  have hm:args.map (ev ⟨sl,st',nx⟩)=args.map (ev ⟨sl,st,nx⟩):=xg fun x _=>hev x
  simp only [aop]
  cases callee with
  | builtin b=>
   have hm2:(args.map fun x=>strip st' (ev ⟨sl,st',nx⟩ x))=args.map fun x=>strip st (ev ⟨sl,st,nx⟩ x):=xg fun x hx=>by rw [hev,qbe (ha x hx)]
   simp only [hm,hm2]
   rw [qoq (st:=st) (st':=st') (fun x hx=>by obtain ⟨p,hp',rfl⟩:=List.mem_map.1 hx;exact ha p hp')]
   exact OLoc.also (jgl (fun x hx=>by obtain ⟨p,hp',rfl⟩:=List.mem_map.1 hx;exact (ha p hp').strip))
  | value f=>
   simp only [hm,hev]
   refine OLoc.quiet ?_
   unfold qnx
   split <;> rfl
  | invoke r m=>trivial
 | _=>trivial
theorem qxh {P:Program} (hT:∀ t,T t=tab P t) {sl:List (Nat × AV)} {nx:Nat} {dst:Option Nat} (op:Op) (h:Agree (foot ⟨sl,st,nx⟩ op) st st') :
  OLoc st st' (tgt ⟨sl,st,nx⟩ op) (aop T C ⟨sl,st,nx⟩ dst op) (aop T C ⟨sl,st',nx⟩ dst op):=by
 have all:(∀ x∈op.operands,∀ n∈nms (ev ⟨sl,st,nx⟩ x),n∈foot ⟨sl,st,nx⟩ op)→OLoc st st' (tgt ⟨sl,st,nx⟩ op) (aop T C ⟨sl,st,nx⟩ dst op) (aop T C ⟨sl,st',nx⟩ dst op):=fun hf=>
  jhg hT op (fun x hx=>h.mono (hf x hx))
 cases op with
 | store t a x=>
  have hev:∀ x,ev ⟨sl,st',nx⟩ x=ev ⟨sl,st,nx⟩ x:=fun x=>by cases x <;> rfl
  cases hb:qkc (ev ⟨sl,st,nx⟩ a) (ev ⟨sl,st,nx⟩ x) with
  | false=>
   refine all (fun y hy n hn=>?_)
   simp only [foot,hb,cond_false,zaj]
   simp only [Op.operands] at hy
   simp at hy
   rcases hy with rfl|rfl
   ·exact .inl hn
   ·exact .inr hn
  | true=>
   have ha:Agree (nms (ev ⟨sl,st,nx⟩ a)) st st':=h.mono (fun n hn=>by simp only [foot,zaj];exact .inl hn)
   simp only [aop,hev,tgt]
   generalize ev ⟨sl,st,nx⟩ a=sa at hb ha ⊢
   generalize ev ⟨sl,st,nx⟩ x=sx at hb ⊢
   unfold qkc at hb
   split at hb
   ·simp only [jh,strip,qjp]
    exact OLoc.also (qwy ha)
   ·cases hb
 | _=>exact all (fun x hx n hn=>List.mem_flatMap.2 ⟨x,by simpa using hx,hn⟩)
end Go.Sx
end
section
namespace Go.Sx
open Go Go.RowKit
universe u
structure CE where
 P:Program
 T:Nat→TI
 cf:FuncId→Cfg
inductive CR where
 | ok (st:List (Nat × SO)) (nx:Nat) (v:AV)
 | bad (f:FuncId) (why:Nat) (o:Option Oper)
inductive CS where
 | go (v:AV) (wr:Bool) (st:List (Nat × SO)) (nx:Nat)
 | bad (f:FuncId) (why:Nat) (o:Option Oper)
def chk:Option DP→Bool
 | none=>true
 | some ⟨_,b,_⟩=>b
def fzN {α:Sort u} (n:Nat) (K:Nat→α):α:=
 match n with
 | 0=>K 0
 | m+1=>K (m+1)
def fzI {α:Sort u} (n:Int) (K:Int→α):α:=
 match n with
 | .ofNat m=>fzN m fun m=>K (.ofNat m)
 | .negSucc m=>fzN m fun m=>K (.negSucc m)
def fzS {α:Sort u}:List UInt8→(List UInt8→α)→α
 | [],K=>K []
 | b::l,K=>fzS l fun l=>K (b::l)
def fz1 {α:Sort u} (v:AV) (K:AV→α):α:=
 match v with
 | .any=>K .any
 | .int k n=>fzI n fun n=>K (.int k n)
 | .bool b=>match b with|true=>K (.bool true)|false=>K (.bool false)
 | .str l=>fzS l fun l=>K (.str l)
 | .nils=>K .nils
 | .slc sz n f=>fzN n fun n=>K (.slc sz n f)
 | .own r i e n=>fzN r fun r=>fzN e fun e=>fzN n fun n=>K (.own r i e n)
 | .ptr b o=>fzN b fun b=>fzN o fun o=>K (.ptr b o)
 | .eptr r i e n sz k o=>fzN k fun k=>fzN o fun o=>K (.eptr r i e n sz k o)
 | .mapv b=>K (.mapv b)
 | .ifc t v=>K (.ifc t v)
 | .nili=>K .nili
 | .rptr cs=>K (.rptr cs)
 | .nilp=>K .nilp
 | .agg cs=>K (.agg cs)
 | .tup vs=>K (.tup vs)
 | .fn f cs=>K (.fn f cs)
 | .cnd b v=>match b with|true=>K (.cnd true v)|false=>K (.cnd false v)
def fzL1 {α:Sort u}:List AV→(List AV→α)→α
 | [],K=>K []
 | x::xs,K=>fz1 x fun x'=>fzL1 xs fun xs'=>K (x'::xs')
def fzA {α:Sort u} (v:AV) (K:AV→α):α:=
 match v with
 | .agg cs=>fzL1 cs fun cs=>K (.agg cs)
 | .rptr cs=>fzL1 cs fun cs=>K (.rptr cs)
 | v=>fz1 v K
def fzLA {α:Sort u}:List AV→(List AV→α)→α
 | [],K=>K []
 | x::xs,K=>fzA x fun x'=>fzLA xs fun xs'=>K (x'::xs')
def fz {α:Sort u} (v:AV) (K:AV→α):α:=
 match v with
 | .tup vs=>fzLA vs fun vs=>K (.tup vs)
 | v=>fzA v K
def tabF (L:List (List AV)):Nat→List AV:=fun i=>L.getD i []
def tabK {α:Sort u} (f:Nat→List AV):Nat→List (List AV)→(List (List AV)→α)→α
 | 0,acc,K=>K acc
 | k+1,acc,K=>fzL1 (f k) fun c=>tabK f k (c::acc) K
def nz1 {α:Sort u} (b:Bool) (o:SO) (K:SO→α):α:=
 match b with
 | true=>match o with
  | .row ids e sz ep n f=>fzN ep fun ep=>fzN n fun n=>tabK f n [] fun L=>K (.row ids e sz ep n (tabF L))
  | .box t cs=>fzL1 cs fun cs=>K (.box t cs)
  | o=>K o
 | false=>K o
def nz {α:Sort u} (p:Nat→Bool):List (Nat × SO)→(List (Nat × SO)→α)→α
 | [],K=>K []
 | (i,o)::r,K=>fzN i fun i=>nz1 (p i) o fun o=>nz p r fun r=>K ((i,o)::r)
def inS:List Nat→Nat→Bool
 | [],_=>false
 | x::r,t=>bif Nat.beq x t then true else inS r t
def ddK {α:Sort u}:List (Nat × AV)→List Nat→(List (Nat × AV)→α)→α
 | [],_,K=>K []
 | (t,v)::r,seen,K=>match inS seen t with|true=>ddK r seen K|false=>ddK r (t::seen) fun r=>K ((t,v)::r)
def putK {α:Sort u} (sl:List (Nat × AV)) (d:Option Nat) (v:AV) (K:List (Nat × AV)→α):α:=
 match d with
 | some d=>K ((d,v)::sl)
 | none=>K sl
def qsa (fn:Func):Option Nat→Bool
 | some d=>Nat.blt d fn.ntmps
 | none=>true
def qim (D:CE) (f:FuncId) (s:ASt) (o:Oper) (call:FuncId→List AV→List (Nat × SO)→Nat→CR):CS:=
 match aop D.T (D.cf f) s o.dst o.op with
 | .ok ob v=>match chk ob with|true=>.go v false s.st s.nx|false=>.bad f 10 (some o)
 | .mem ob v st nx=>match chk ob with|true=>.go v true st nx|false=>.bad f 11 (some o)
 | .call g args=>match call g args s.st s.nx with | .ok st nx v=>.go v true st nx | .bad g w o=>.bad g w o
 | .bad=>.bad f 12 (some o)
def cstep (D:CE) (f:FuncId) (fn:Func) (full:Array Oper) (s:ASt) (o:Oper) (call:FuncId→List AV→List (Nat × SO)→Nat→CR):CS:=
 match qsa fn o.dst with
 | false=>.bad f 20 (some o)
 | true=>
  match o.guard with
  | none=>qim D f s o call
  | some (j,want)=>
   match (qbi full j).map s.get with
   | some x=>
    match qcs want x with
    | some true=>qim D f s o call
    | some false=>.go (.cnd false (.bool false)) false s.st s.nx
    | none=>.bad f 21 (some o)
   | none=>.bad f 22 (some o)
def qmd:AV→AV→Bool
 | .any,.any=>true
 | .int k n,.int k' n'=>decide (k=k') && decide (n=n')
 | .bool a,.bool b=>a == b
 | .str a,.str b=>a == b
 | .nils,.nils=>true
 | .own r i e n,.own r' i' e' n'=>Nat.beq r r' && Nat.beq i i' && Nat.beq e e' && Nat.beq n n'
 | .ptr b o,.ptr b' o'=>Nat.beq b b' && Nat.beq o o'
 | .eptr r i e n sz k o,.eptr r' i' e' n' sz' k' o'=>Nat.beq r r' && Nat.beq i i' && Nat.beq e e' && Nat.beq n n' && Nat.beq sz sz' && Nat.beq k k' && Nat.beq o o'
 | .nilp,.nilp=>true
 | _,_=>false
def qgl (p:AV→AV→Bool):List AV→List AV→Bool
 | [],[]=>true
 | x::xs,y::ys=>p x y && qgl p xs ys
 | _,_=>false
def leB:Nat→AV→AV→Bool
 | 0,_,_=>false
 | n+1,x,y=>
  match y with
  | .any=>true
  | .int k' m'=>match x with | .int k m=>decide (k=k') && decide (m=m')|_=>false
  | .bool b'=>match x with | .bool b=>b == b'|_=>false
  | .str l'=>match x with | .str l=>l == l'|_=>false
  | .nils=>match x with | .nils=>true|_=>false
  | .nilp=>match x with | .nilp=>true|_=>false
  | .slc sz' m' f'=>match x with
   | .nils=>Nat.beq m' 0
   | .slc sz m f=>Nat.beq sz sz' && Nat.beq m m' && (List.range m).all fun i=>qgl (leB n) (f i) (f' i)
   | _=>false
  | .rptr ys=>match x with | .rptr xs=>qgl (leB n) xs ys|_=>false
  | .agg ys=>match x with | .agg xs=>qgl (leB n) xs ys|_=>false
  | .tup ys=>match x with | .tup xs=>qgl (leB n) xs ys|_=>false
  | .cnd false y=>match x with | .cnd false x=>qmd x y|_=>false
  | .fn f []=>match x with | .fn g []=>Nat.beq f g|_=>false
  | y=>qmd x y
def qdy (full:Array Oper) (L:List (Oper × Stp)) (i m:Nat):Bool:=
 (List.range L.length).all fun q=>match L[q]? with
  | some x=>!x.2.wr || (bif Nat.blt q m then !(anc full L.length q).contains i else !(anc full L.length i).contains q)
  | none=>true
def qsb (D:CE) (f:FuncId) (fn:Func) (full:Array Oper) (L:List (Oper × Stp)) (s:ASt) (i:Nat):Bool:=
 match L[i]? with
 | some x=>x.2.wr || (List.range (L.length+1)).all fun m=>
   !qdy full L i m ||
   (match cstep D f fn full ⟨(stateAt L 0 (fun j=>Nat.blt j i) s).sl,(stateAt L 0 (fun j=>Nat.blt j m) s).st,(stateAt L 0 (fun j=>Nat.blt j m) s).nx⟩ x.1 (fun g _ _ _=>.bad g 30 none) with
    | .go v wr _ _=>!wr && leB 9 v x.2.v
    | .bad ..=>false)
 | none=>true
def qme (D:CE) (f:FuncId) (fn:Func) (full:Array Oper) (L:List (Oper × Stp)) (s:ASt):Bool:=
 qbs full L && (List.range L.length).all (qsb D f fn full L s)
def qmf:List Oper→List Bool→List (Oper × Stp)
 | o::r,b::bs=>(o,⟨.any,b,[],0,True⟩)::qmf r bs
 | _,_=>[]
def sameS (wrs:List Bool) (i m:Nat):Bool:=(List.range wrs.length).all fun q=>!(wrs.getD q false) || (Nat.blt q i == Nat.blt q m)
def ordS (full:Array Oper) (wrs:List Bool):Bool:=
 qbs full (qmf full.toList wrs) && (List.range wrs.length).all fun i=>wrs.getD i true || (List.range (wrs.length+1)).all fun m=>!qdy full (qmf full.toList wrs) i m || sameS wrs i m
def wrsK {α:Sort u}:List (Oper × Stp)→List Bool→(List Bool→α)→α
 | [],out,K=>K out
 | x::r,out,K=>match x.2.wr with|true=>wrsK r (true::out) K|false=>wrsK r (false::out) K
inductive Task where
 | run (k:List Itm) (s:ASt)
 | draw (full:Array Oper) (l:List Oper) (acc:List (Oper × Stp)) (s0:ASt) (k:List Itm) (s:ASt)
def cx (D:CE):Nat→FuncId→Func→Task→CR
 | 0,f,_,_=>.bad f 0 none
 | n+1,f,fn,t=>
  match t with
  | .run k ⟨sl,st,nx⟩=>
   match k with
   | []=>match qid D.T ⟨sl,st,nx⟩ fn.results.toList with|some v=>fz v fun v=>.ok st nx v|none=>.bad f 1 none
   | .blk _::k=>cx D n f fn (.run k ⟨sl,st,nx⟩)
   | .mark _::_=>.bad f 2 none
   | .code c::k=>
    match c with
    | .skip=>cx D n f fn (.run k ⟨sl,st,nx⟩)
    | .label _=>cx D n f fn (.run k ⟨sl,st,nx⟩)
    | .seq x y=>cx D n f fn (.run (.code x::.code y::k) ⟨sl,st,nx⟩)
    | .block id x=>cx D n f fn (.run (.code x::.blk id::k) ⟨sl,st,nx⟩)
    | .cond o x y=>
     match ev ⟨sl,st,nx⟩ o with
     | .bool true=>cx D n f fn (.run (.code x::k) ⟨sl,st,nx⟩)
     | .bool false=>cx D n f fn (.run (.code y::k) ⟨sl,st,nx⟩)
     | _=>.bad f 3 none
    | .loop b=>ddK sl [] fun sl=>cx D n f fn (.run (.code b::.code (.loop b)::k) ⟨sl,st,nx⟩)
    | .exit id=>match qfn id k with|some k'=>cx D n f fn (.run k' ⟨sl,st,nx⟩)|none=>.bad f 4 none
    | .ret=>match qid D.T ⟨sl,st,nx⟩ fn.results.toList with|some v=>fz v fun v=>.ok st nx v|none=>.bad f 5 none
    | .region _ ops d=>
     match d with
     | true=>cx D n f fn (.draw ops ops.toList [] ⟨sl,st,nx⟩ k ⟨sl,st,nx⟩)
     | false=>cx D n f fn (.run (.ops ops ops.toList::k) ⟨sl,st,nx⟩)
    | _=>.bad f 6 none
   | .ops _ []::k=>cx D n f fn (.run k ⟨sl,st,nx⟩)
   | .ops full (o::rest)::k=>
    match cstep D f fn full ⟨sl,st,nx⟩ o (fun g args st nx=>match D.P.funcs[g]? with
      | some gn=>(match gn.body with
       | some body => (match !(gn.name == "runtime.NumGoroutine") && Nat.ble args.length gn.ntmps with
        | true=>cx D n g gn (.run [.code body] ⟨qch 0 args,st,nx⟩)
        | false=>.bad g 8 none)
       | none=>.bad g 7 (some o))
      | none=>.bad g 9 none) with
    | .go v wr st' nx'=>fz v fun v=>putK sl o.dst v fun sl'=>(match wr with|true=>fzN nx' fun nx'=>nz (fun i=>inS (tgt ⟨sl,st,nx⟩ o.op) i || Nat.ble nx i) st' fun st'=>cx D n f fn (.run (.ops full rest::k) ⟨sl',st',nx'⟩)|false=>cx D n f fn (.run (.ops full rest::k) ⟨sl',st,nx⟩))
    | .bad g w o=>.bad g w o
  | .draw full l acc s0 k ⟨sl,st,nx⟩=>
   match l with
   | []=>wrsK acc [] fun wrs=>match ordS full wrs || qme D f fn full acc.reverse s0 with|true=>nz (fun _=>wrs.any fun b=>b) st fun st=>cx D n f fn (.run k ⟨sl,st,nx⟩)|false=>.bad f 40 full[0]?
   | o::rest=>
    match cstep D f fn full ⟨sl,st,nx⟩ o (fun g args st nx=>match D.P.funcs[g]? with
      | some gn=>(match gn.body with
       | some body => (match !(gn.name == "runtime.NumGoroutine") && Nat.ble args.length gn.ntmps with
        | true=>cx D n g gn (.run [.code body] ⟨qch 0 args,st,nx⟩)
        | false=>.bad g 8 none)
       | none=>.bad g 7 (some o))
      | none=>.bad g 9 none) with
    | .go v wr st' nx'=>fz v fun v=>fzN nx' fun nx'=>cx D n f fn (.draw full rest ((o,⟨v,wr,st',nx',True⟩)::acc) s0 k ⟨qbj sl o.dst v,bif wr then st' else st,bif wr then nx' else nx⟩)
    | .bad g w o=>.bad g w o
def crun (D:CE) (n:Nat) (g:FuncId) (args:List AV):CR:=
 match D.P.funcs[g]? with
 | some gn=>(match gn.body with
  | some body => (match !(gn.name == "runtime.NumGoroutine") && Nat.ble args.length gn.ntmps with
   | true=>cx D n g gn (.run [.code body] ⟨qch 0 args,[],0⟩)
   | false=>.bad g 8 none)
  | none=>.bad g 7 none)
 | none=>.bad g 9 none
end Go.Sx
end
section
namespace Go.Sx
open Go Go.RowKit
variable {rd rd':Rd} {mp mp':Mp} {st:List (Nat × SO)} {nx:Nat} {w w':World} {s:ASt} {a:Act} {c c':Ctx}
def AV.ren0 (ι:Nat→Nat):AV→AV
 | .own r i e n=>.own (ι r) i e n
 | .ptr b o=>.ptr (ι b) o
 | .eptr r i e n sz k o=>.eptr (ι r) i e n sz k o
 | .mapv b=>.mapv (ι b)
 | x=>x
def AV.ren1 (ι:Nat→Nat):AV→AV
 | .fn f cs=>.fn f (cs.map (AV.ren0 ι))
 | x=>x.ren0 ι
def AV.renA (ι:Nat→Nat):AV→AV
 | .agg cs=>.agg (cs.map (AV.ren1 ι))
 | .fn f cs=>.fn f (cs.map (AV.ren1 ι))
 | x=>x.ren1 ι
def AV.ren (ι:Nat→Nat):AV→AV
 | .tup vs=>.tup (vs.map (AV.renA ι))
 | x=>x.renA ι
def SO.ren (ι:Nat→Nat):SO→SO
 | .box ty cs=>.box ty (cs.map (AV.ren1 ι))
 | .row ids e sz ep n f=>.row (ids.map ι) e sz ep n (match ids with|[]=>f|_=>fun k=>(f k).map (AV.ren1 ι))
 | .fam e sz cnt ep len f=>.fam e sz cnt ep len f
 | .ro sz ep n f=>.ro sz ep n f
def RowV.ren (ι:Nat→Nat) (R:RowV):RowV:=⟨R.ids.map ι,R.e,R.sz,R.ep,R.n,match R.ids with|[]=>R.f|_=>fun k=>(R.f k).map (AV.ren1 ι)⟩
def Mp.pull (mp:Mp) (ι:Nat→Nat):Mp:=⟨fun j=>mp.blk (ι j),fun j i=>mp.row (ι j) i⟩
theorem qsc {ι:Nat→Nat} {x:AV} {v:Value} {n:Nat} (hl:x.lt0 n=true):Rel rd (mp.pull ι) x v↔Rel rd mp (x.ren0 ι) v:=by
 constructor
 ·intro h
  cases h with
  | own _ r i e m v vr er nr h1 h2 h3 h4 hsl=>exact .own _ _ _ _ _ _ vr er nr h1 h2 h3 h4 hsl
  | ptr _ b off blk hb=>exact .ptr _ _ _ _ hb
  | mapv _ b g hb=>exact .mapv _ _ _ hb
  | eptr _ r i e m sz k off v vr er nr h1 h2 h3 h4=>exact .eptr _ _ _ _ _ _ _ _ _ vr er nr h1 h2 h3 h4
  | _=>first
   | (simp [AV.lt0] at hl;done)
   | (constructor <;> assumption)
   | constructor
 ·intro h
  cases x with
  | own r i e m=>cases h with|own _ _ _ _ _ _ vr er nr h1 h2 h3 h4 hsl=>exact .own _ _ _ _ _ _ vr er nr h1 h2 h3 h4 hsl
  | ptr b o=>cases h with|ptr _ _ _ blk hb=>exact .ptr _ _ _ _ hb
  | mapv b=>cases h with|mapv _ _ g hb=>exact .mapv _ _ _ hb
  | eptr r i e m sz k o=>cases h with|eptr _ _ _ _ _ _ _ _ _ vr er nr h1 h2 h3 h4=>exact .eptr _ _ _ _ _ _ _ _ _ vr er nr h1 h2 h3 h4
  | agg cs=>simp [AV.lt0] at hl
  | tup cs=>simp [AV.lt0] at hl
  | fn f cs=>simp [AV.lt0] at hl
  | cnd b y=>simp [AV.lt0] at hl
  | ifc t y=>simp [AV.lt0] at hl
  | _=>exact h.pure1 rfl
theorem qin {ι:Nat→Nat} {x:AV} {v:Value} {n:Nat} (hl:x.lt1 n=true):Rel rd (mp.pull ι) x v↔Rel rd mp (x.ren1 ι) v:=by
 cases x with
 | fn f cs=>
  have hc:∀ (j:Nat) y,cs[j]?=some y→y.lt0 n=true:=fun j y hy=>List.all_eq_true.1 hl y (zh hy)
  constructor
  ·intro h
   cases h with
   | fn _ _ _ vs hs he=>
    refine .fn _ _ _ _ (by simpa using hs) (fun j x v hx hv=>?_)
    rw [zg] at hx
    obtain ⟨y,hy,rfl⟩:=Option.map_eq_some_iff.1 hx
    exact (qsc (hc j y hy)).1 (he j y v hy hv)
  ·intro h
   cases h with
   | fn _ _ _ vs hs he=>
    refine .fn _ _ _ _ (by simpa using hs) (fun j x v hx hv=>?_)
    exact (qsc (hc j x hx)).2 (he j _ v (by rw [zg,hx];rfl) hv)
 | _=>exact qsc (n:=n) hl
theorem qio {ι:Nat→Nat} {n:Nat} {cs:List AV} {vs:Array Value} (hl:cs.all (AV.lt1 n)=true) :
  (∀ (j:Nat) x v,cs[j]?=some x→vs[j]?=some v→Rel rd (mp.pull ι) x v)↔(∀ (j:Nat) x v,(cs.map (AV.ren1 ι))[j]?=some x→vs[j]?=some v→Rel rd mp x v):=by
 constructor
 ·intro h j x v hx hv
  rw [zg] at hx
  obtain ⟨y,hy,rfl⟩:=Option.map_eq_some_iff.1 hx
  exact (qin (List.all_eq_true.1 hl y (zh hy))).1 (h j y v hy hv)
 ·intro h j x v hx hv
  exact (qin (List.all_eq_true.1 hl x (zh hx))).2 (h j _ v (by rw [zg,hx];rfl) hv)
theorem qsd {ι:Nat→Nat} {x:AV} {v:Value} {n:Nat} (hl:x.ltA n=true):Rel rd (mp.pull ι) x v↔Rel rd mp (x.renA ι) v:=by
 cases x with
 | agg cs=>
  constructor
  ·intro h
   cases h with|agg _ _ vs hs he=>exact .agg _ _ _ (by simpa using hs) ((qio hl).1 he)
  ·intro h
   cases h with|agg _ _ vs hs he=>exact .agg _ _ _ (by simpa using hs) ((qio hl).2 he)
 | fn f cs=>
  constructor
  ·intro h
   cases h with|fn _ _ _ vs hs he=>exact .fn _ _ _ _ (by simpa using hs) ((qio hl).1 he)
  ·intro h
   cases h with|fn _ _ _ vs hs he=>exact .fn _ _ _ _ (by simpa using hs) ((qio hl).2 he)
 | _=>exact qin (n:=n) hl
theorem qfu {ι:Nat→Nat} {x:AV} {v:Value} {n:Nat} (hl:x.lt n=true):Rel rd (mp.pull ι) x v↔Rel rd mp (x.ren ι) v:=by
 cases x with
 | tup cs=>
  constructor
  ·intro h
   cases h with
   | tup _ _ vs hs he=>
    refine .tup _ _ _ (by simpa using hs) (fun j x v hx hv=>?_)
    rw [zg] at hx
    obtain ⟨y,hy,rfl⟩:=Option.map_eq_some_iff.1 hx
    exact (qsd (List.all_eq_true.1 hl y (zh hy))).1 (he j y v hy hv)
  ·intro h
   cases h with
   | tup _ _ vs hs he=>
    refine .tup _ _ _ (by simpa using hs) (fun j x v hx hv=>?_)
    exact (qsd (List.all_eq_true.1 hl x (zh hx))).2 (he j _ v (by rw [zg,hx];rfl) hv)
 | _=>exact qsd (n:=n) hl
def idx:Nat→List SO→List (Nat × SO)
 | _,[]=>[]
 | i,o::r=>(i,o)::idx (i+1) r
theorem qkf:∀ (l:List SO) (i j:Nat),look (idx i l) j=if i≤j then l[j - i]? else none:=by
 intro l
 induction l with
 | nil=>intro i j;simp [idx,look]
 | cons o l ih=>
  intro i j
  simp only [idx,qq,ih]
  by_cases h1:i=j
  ·subst h1;simp
  ·by_cases h2:i≤j
   ·rw [za h1,zb (by omega),zb h2,show j - i=(j - (i+1))+1 by omega,zaa]
   ·rw [za h1,za (by omega),za h2]
def Trip (P:Program) (f:FuncId) (args:List AV) (st0:List SO) (res:AV) (st1:List (Nat × SO)) (n1:Nat):Prop:=
 ∀ c rd mp w vs,c.w0=w→c.rd0=rd→c.fre=stdF→Mem c rd mp (idx 0 st0) st0.length w→RelL rd mp args vs→Invokes P f vs w (fun v w'=>
  ∃ rd' mp',Rel rd' mp' res v∧Rd.le rd rd'∧Mp.le mp mp'∧Mem c rd' mp' st1 n1 w') (fun _ _=>False)
def names (is:List Nat) (nx:Nat) (j:Nat):Nat:=if j<is.length then is.getD j 0 else nx+(j - is.length)
def inv (is:List Nat) (nx y:Nat):Option Nat:=if y∈is then some (is.idxOf y) else if nx≤y then some (is.length+(y - nx)) else none
def Mp.back (mp mp':Mp) (is:List Nat) (nx:Nat):Mp:=
 ⟨fun y=>match inv is nx y with|some j=>mp'.blk j | .none=>mp.blk y,fun y i=>match inv is nx y with|some j=>mp'.row j i | .none=>mp.row y i⟩
theorem qex {is:List Nat} {nx:Nat} (hd:is.Nodup) (hlt:∀ i∈is,i<nx) (j:Nat):inv is nx (names is nx j)=some j:=by
 unfold inv names
 by_cases h:j<is.length
 ·rw [zb h]
  have hg:is.getD j 0=is[j]:=by simp [List.getD,h]
  rw [hg,zb (xt h),hd.idxOf_getElem j h]
 ·rw [za h,za (fun hm=>by have:=hlt _ hm;omega),zb (by omega)]
  congr 1;omega
theorem qey {is:List Nat} {nx y j:Nat} (h:inv is nx y=some j):names is nx j=y:=by
 unfold inv at h
 split at h
 ·rename_i hm
  cases h
  have hl:=zaf hm
  unfold names
  rw [zb hl]
  simp [List.getD,hl]
 ·split at h
  ·cases h
   unfold names
   rw [za (by omega)]
   omega
  ·cases h
theorem qse {is:List Nat} {nx:Nat} (hd:is.Nodup) (hlt:∀ i∈is,i<nx):(Mp.back mp mp' is nx).pull (names is nx)=mp':=by
 simp only [Mp.pull,Mp.back,qex hd hlt]
theorem SO.ren_box {ι:Nat→Nat} {o:SO} {ty:TypeId} {cs:List AV} (h:o.ren ι=.box ty cs):∃ cs0,o=.box ty cs0∧cs=cs0.map (AV.ren1 ι):=by
 cases o with
 | box t c=>simp only [SO.ren,SO.box.injEq] at h;obtain ⟨rfl,rfl⟩:=h;exact ⟨c,rfl,rfl⟩
 | row=>simp [SO.ren] at h
 | fam=>simp [SO.ren] at h
 | ro=>simp [SO.ren] at h
structure Named (st0:List (Nat × SO)) (st:List (Nat × SO)) (ι:Nat→Nat):Prop where
 at_:∀ j o,look st0 j=some o→look st (ι j)=some (o.ren ι)
theorem Named.mem {st0:List (Nat × SO)} {ι:Nat→Nat} (h:Named st0 st ι) {j i:Nat} {R:RowV} (hR:IsMem st0 j i R):IsMem st (ι j) i (R.ren ι):=by
 cases hR with
 | row hl=>exact .row (h.at_ _ _ hl)
 | fam hl hi=>exact .fam (h.at_ _ _ hl) hi
def Pl.ren (ι:Nat→Nat):Pl→Pl
 | .bx b=>.bx (ι b)
 | .rw r i=>.rw (ι r) i
theorem Named.there {st0:List (Nat × SO)} {ι:Nat→Nat} (h:Named st0 st ι) {p:Pl} (hp:There st0 p):There st (p.ren ι):=by
 cases p with
 | bx b=>obtain ⟨ty,cs,hl⟩:=hp;exact ⟨ty,_,h.at_ _ _ hl⟩
 | rw r i=>obtain ⟨R,hR⟩:=hp;exact ⟨_,h.mem hR⟩
theorem jhh (mp:Mp) (ι:Nat→Nat) (p:Pl):blkOf (mp.pull ι) p=blkOf mp (p.ren ι):=by cases p <;> rfl
theorem RowV.ren_row {ι:Nat→Nat} {R:RowV} {n:Nat} (hl:∀ k,k<R.n→(R.f k).all (AV.lt1 n)=true) {xs:List Value} :
  (∀ (k j:Nat) x,k<R.n→(R.f k)[j]?=some x→∃ u,xs[k * R.sz+j]?=some u∧u.oneCell'=true∧Rel rd ((mp.pull ι).sel R.ids) x u)→
  (∀ (k j:Nat) x,k<R.n→((R.ren ι).f k)[j]?=some x→∃ u,xs[k * R.sz+j]?=some u∧u.oneCell'=true∧Rel rd (mp.sel (R.ren ι).ids) x u):=by
 intro h k j x hk hx
 cases hids:R.ids with
 | nil=>
  simp only [RowV.ren,hids] at hx ⊢
  obtain ⟨u,hu,h1,h2⟩:=h k j x hk hx
  refine ⟨u,hu,h1,?_⟩
  rw [hids,Mp.sel_nil] at h2
  simp only [List.map_nil,Mp.sel_nil]
  exact h2
 | cons q qs=>
  simp only [RowV.ren,hids] at hx ⊢
  rw [zg] at hx
  obtain ⟨y,hy,rfl⟩:=Option.map_eq_some_iff.1 hx
  obtain ⟨u,hu,h1,h2⟩:=h k j y hk hy
  refine ⟨u,hu,h1,?_⟩
  have hly:=List.all_eq_true.1 (hl k hk) y (zh hy)
  have hle:Mp.le ((mp.pull ι).sel (q::qs)) ((mp.sel ((q::qs).map ι)).pull ι):=by
   refine ⟨fun _ _ h=>(by cases h),fun r i v e m hr=>⟨v,e,m,?_,.inr ⟨rfl,.inr ⟨rfl,rfl⟩⟩⟩⟩
   simp only [Mp.sel,Mp.pull] at hr ⊢
   split at hr
   ·rename_i hmem;rw [zb (List.mem_map_of_mem hmem)];exact hr
   ·cases hr
  rw [hids] at h2
  exact (qin hly).1 (h2.mono (Rd.le.refl _) hle)
def rowsLt (n:Nat) (st:List (Nat × SO)):Prop:=∀ j ids e sz ep m f,look st j=some (.row ids e sz ep m f)→ids≠[]→∀ k,k<m→(f k).all (AV.lt1 n)=true
theorem qot {n:Nat} {st0:List (Nat × SO)} (h:rowsLt n st0) {j i:Nat} {R:RowV} (hR:IsMem st0 j i R) (hids:R.ids≠[]):∀ k,k<R.n→(R.f k).all (AV.lt1 n)=true:=by
 cases hR with
 | row hl=>exact h _ _ _ _ _ _ _ hl hids
 | fam hl hi=>exact absurd rfl hids
theorem qou {ι:Nat→Nat} {R:RowV} {n:Nat} (hl:R.ids≠[]→∀ k,k<R.n→(R.f k).all (AV.lt1 n)=true) (hinj:∀ i j,i<n→j<n→ι i=ι j→i=j) (hids:∀ r∈R.ids,r<n) {xs:List Value} :
  (∀ (k j:Nat) x,k<R.n→(R.f k)[j]?=some x→∃ u,xs[k * R.sz+j]?=some u∧u.oneCell'=true∧Rel rd ((mp.pull ι).sel R.ids) x u) ↔
  (∀ (k j:Nat) x,k<R.n→((R.ren ι).f k)[j]?=some x→∃ u,xs[k * R.sz+j]?=some u∧u.oneCell'=true∧Rel rd (mp.sel (R.ren ι).ids) x u):=by
 cases hR:R.ids with
 | nil=>
  simp only [RowV.ren,hR,List.map_nil,Mp.sel_nil]
 | cons q qs=>
  have hl':=hl (by rw [hR];simp)
  constructor
  ·intro h k j x hk hx
   rw [← hR] at h
   exact RowV.ren_row hl' h k j x hk hx
  ·intro h k j x hk hx
   have hly:=List.all_eq_true.1 (hl' k hk) x (zh hx)
   obtain ⟨u,hu,h1,h2⟩:=h k j (x.ren1 ι) hk (by simp only [RowV.ren,hR];rw [zg,hx];rfl)
   refine ⟨u,hu,h1,?_⟩
   have h3:=(qin hly).2 h2
   simp only [RowV.ren,hR] at h3
   have h4:=h3.lt1 hly
   refine h4.mono (Rd.le.refl _) ⟨fun i g hg=>?_,fun r i v e m hr=>⟨v,e,m,?_,.inr ⟨rfl,.inr ⟨rfl,rfl⟩⟩⟩⟩
   ·simp only [Mp.restrict,Mp.pull,Mp.sel] at hg
    split at hg <;> cases hg
   ·simp only [Mp.restrict,Mp.pull,Mp.sel] at hr ⊢
    split at hr
    ·rename_i hrn
     split at hr
     ·rename_i hmem
      obtain ⟨r',hr',he⟩:=List.mem_map.1 hmem
      have:r'=r:=hinj r' r (hids r' (by rw [hR];exact hr')) hrn he
      subst this
      rw [zb hr'];exact hr
     ·cases hr
    ·cases hr
theorem RowV.ren_len {ι:Nat→Nat} (R:RowV) (k:Nat):((R.ren ι).f k).length=(R.f k).length:=by
 cases hids:R.ids <;> simp [RowV.ren,hids]
theorem Mem.enter {ι:Nat→Nat} {st0:List (Nat × SO)} {n:Nat} (hm:Mem c rd mp st nx w) (hnm:Named st0 st ι) (hlt:stLt n st0=true) (hrows:rowsLt n st0) (hinj:∀ i j,i<n→j<n→ι i=ι j→i=j) :
  Mem ⟨w,rd,fun g=>∃ p,There st0 p∧blkOf mp (p.ren ι)=some g,stdF⟩ rd ((mp.pull ι).restrict n) st0 n w:=by
 have hid:∀ j o,look st0 j=some o→j<n∧o.lt n=true:=by
  intro j o hx
  have:=(List.all_eq_true.1 hlt) _ (qdv hx)
  simp only [zf,zl] at this
  exact ⟨by omega,this.2⟩
 have hmem:∀ r i R,IsMem st0 r i R→r<n∧∀ q∈R.ids,q<n:=by
  intro r i R hR
  cases hR with
  | row hl=>
   refine ⟨(hid _ _ hl).1,fun q hq=>?_⟩
   have:=List.all_eq_true.1 (hid _ _ hl).2 q hq
   simp only [zl] at this;omega
  | fam hl _=>exact ⟨(hid _ _ hl).1,fun q hq=>by simp at hq⟩
 have hplt:∀ p,There st0 p→blkOf ((mp.pull ι).restrict n) p=blkOf mp (p.ren ι):=by
  intro p hp
  cases p with
  | bx b=>obtain ⟨ty,cs,hl⟩:=hp;simp [blkOf,Mp.restrict,Mp.pull,Pl.ren,(hid _ _ hl).1]
  | rw r i=>obtain ⟨R,hR⟩:=hp;simp [blkOf,Mp.restrict,Mp.pull,Pl.ren,(hmem _ _ _ hR).1]
 refine ⟨hm.rdw,hm.rd1,fun g o v h=>.inl h,⟨rfl,rfl,rfl,zi _,fun _ _ _=>rfl⟩,fun b ty cs hl=>?_,fun r i R hR=>?_,fun p q g hp hq hgp hgq=>?_,fun i hi=>by simp only [stdF] at hi;simp [Mp.restrict,Nat.not_lt.2 hi],fun i x hx=>by simp only [stdF,Nat.not_le];exact (hid i x hx).1,fun r e sz cnt ep len f hl i hi=>?_,fun r sz ep n' f hl=>?_,⟨hm.tabR,fun t ht hf=>?_⟩,Rd.le.refl _⟩
 ·obtain ⟨hb,hcs⟩:=hid _ _ hl
  obtain ⟨g,vs,h1,h2,h3,h4,h5,h6⟩:=hm.bx (ι b) ty _ (hnm.at_ _ _ hl)
  refine ⟨g,vs,by simp [Mp.restrict,Mp.pull,hb,h1],h2,by simpa using h3,fun j x v hx hv=>?_,h5,.inr ⟨.bx b,⟨ty,cs,hl⟩,h1⟩⟩
  have hx1:=List.all_eq_true.1 hcs x (zh hx)
  exact ((qin hx1).2 (h4 j _ v (by rw [zg,hx];rfl) hv)).lt1 hx1
 ·obtain ⟨hr,hids⟩:=hmem r i R hR
  obtain ⟨v,xs,h1,h2,h3,h4,h5⟩:=hm.mb (ι r) i _ (hnm.mem hR)
  refine ⟨v,xs,by simp [Mp.restrict,Mp.pull,hr];exact h1,h2,fun k hk=>?_,?_,fun g hg=>⟨(h5 g hg).1,.inr ⟨.rw r i,⟨R,hR⟩,by simp only [blkOf,Pl.ren];rw [h1];simpa using hg⟩⟩⟩
  ·rw [← RowV.ren_len (ι:=ι)];exact h3 k hk
  ·rw [Mp.restrict_sel (by rw [zs];intro q hq;have:=hids q hq;simp only [zl];omega)]
   exact (qou (fun hne=>qot hrows hR hne) hinj hids).2 h4
 ·rw [hplt p hp] at hgp
  rw [hplt q hq] at hgq
  have he:=hm.inj _ _ g (hnm.there hp) (hnm.there hq) hgp hgq
  cases p with
  | bx b=>
   cases q with
   | bx b'=>
    obtain ⟨ty,cs,hl⟩:=hp
    obtain ⟨ty',cs',hl'⟩:=hq
    simp only [Pl.ren,Pl.bx.injEq] at he
    rw [hinj b b' (hid _ _ hl).1 (hid _ _ hl').1 he]
   | rw r i=>simp [Pl.ren] at he
  | rw r i=>
   cases q with
   | bx b'=>simp [Pl.ren] at he
   | rw r' i'=>
    obtain ⟨R,hR⟩:=hp
    obtain ⟨R',hR'⟩:=hq
    simp only [Pl.ren,Pl.rw.injEq] at he
    obtain ⟨he1,rfl⟩:=he
    rw [hinj r r' (hmem _ _ _ hR).1 (hmem _ _ _ hR').1 he1]
 ·have:=hm.out (ι r) e sz cnt ep len f (hnm.at_ _ _ hl) i hi
  simp [Mp.restrict,Mp.pull,this]
 ·obtain ⟨v,h1,h2⟩:=hm.ro (ι r) sz ep n' f (hnm.at_ _ _ hl)
  exact ⟨v,by simp [Mp.restrict,Mp.pull,(hid _ _ hl).1,h1],h2⟩
 ·obtain ⟨p,hp,hg⟩:=hf
  exact (hm.tabR t ht).1 ((hm.home (hnm.there hp) hg).2.1 0)
def jc (ι:Nat→Nat) (st:List (Nat × SO)):List (Nat × SO):=st.map fun p=>(ι p.1,p.2.ren ι)
def qu (is:List Nat):List (Nat × SO)→List (Nat × SO)
 | []=>[]
 | (j,o)::r=>bif is.any (Nat.beq j) then qu is r else (j,o)::qu is r
theorem qdj {α:Type} (l m:List (Nat × α)) (y:Nat):look (l++m) y=match look l y with|some x=>some x|none=>look m y:=by
 induction l with
 | nil=>simp [look]
 | cons p l ih=>
  obtain ⟨j,o⟩:=p
  rw [zac,qq,qq,ih]
  split <;> rfl
theorem qxi (is:List Nat) (j:Nat):is.any (Nat.beq j)=decide (j∈is):=by
 rw [xc,List.any_eq_true,zo]
 constructor
 ·rintro ⟨x,hx,he⟩;rw [zj he];exact hx
 ·intro h;exact ⟨j,h,Nat.beq_refl j⟩
theorem qgm (is:List Nat) (st:List (Nat × SO)) (y:Nat):look (qu is st) y=if y∈is then none else look st y:=by
 induction st with
 | nil=>simp [qu,look]
 | cons p r ih=>
  obtain ⟨j,o⟩:=p
  simp only [qu,qxi]
  by_cases hj:j∈is
  ·simp only [hj,decide_true,cond_true,ih,qq]
   by_cases hy:y∈is
   ·simp [hy]
   ·rw [za hy,za hy,za (by rintro rfl;exact hy hj)]
  ·simp only [hj,decide_false,cond_false,qq,ih]
   by_cases hy:y∈is
   ·rw [zb hy,zb hy,za (by rintro rfl;exact hj hy)]
   ·rw [za hy,za hy]
theorem qxj {is:List Nat} {nx:Nat} (hd:is.Nodup) (hlt:∀ i∈is,i<nx) (st1:List (Nat × SO)) (y:Nat) :
  look (jc (names is nx) st1) y=match inv is nx y with|some j=>(look st1 j).map (SO.ren (names is nx))|none=>none:=by
 induction st1 with
 | nil=>cases inv is nx y <;> rfl
 | cons p r ih=>
  obtain ⟨j,o⟩:=p
  simp only [jc,xp] at ih ⊢
  rw [qq,ih]
  by_cases hy:names is nx j=y
  ·rw [zb hy,← hy,qex hd hlt]
   simp only
   rw [qq,zb rfl];rfl
  ·rw [za hy]
   cases hi:inv is nx y with
   | none=>rfl
   | some j'=>
    simp only
    rw [qq,za (fun e=>hy (by rw [e];exact qey hi))]
theorem qbq {is:List Nat} {nx:Nat} (hd:is.Nodup) (hlt:∀ i∈is,i<nx) (hst:∀ i x,look st i=some x→i<nx) (st1:List (Nat × SO)) (y:Nat) :
  look (jc (names is nx) st1++qu is st) y=match inv is nx y with|some j=>(look st1 j).map (SO.ren (names is nx))|none=>look st y:=by
 rw [qdj,qxj hd hlt,qgm]
 cases hi:inv is nx y with
 | none=>
  simp only
  rw [za]
  intro hm
  simp [inv,hm] at hi
 | some j=>
  simp only
  cases hl:look st1 j with
  | some o=>rfl
  | none=>
   simp only [Option.map_none]
   by_cases hm:y∈is
   ·rw [zb hm]
   ·rw [za hm]
    cases hs:look st y with
    | none=>rfl
    | some x=>
     have:=hst y x hs
     simp [inv,hm,Nat.not_le.2 this] at hi
theorem qxk {is:List Nat} {nx:Nat} (hd:is.Nodup) (hlt:∀ i∈is,i<nx) (hst:∀ i x,look st i=some x→i<nx) {st1:List (Nat × SO)} {y i:Nat} {R:RowV} (hR:IsMem (jc (names is nx) st1++qu is st) y i R) :
  (∃ j R0,names is nx j=y∧IsMem st1 j i R0∧R=R0.ren (names is nx))∨(inv is nx y=none∧IsMem st y i R):=by
 have hb:=qbq (st:=st) hd hlt hst st1 y
 cases hi:inv is nx y with
 | none=>
  rw [hi] at hb
  simp only at hb
  refine .inr ⟨rfl,?_⟩
  cases hR with
  | row hl=>rw [hb] at hl;exact .row hl
  | fam hl h=>rw [hb] at hl;exact .fam hl h
 | some j=>
  rw [hi] at hb
  simp only at hb
  refine .inl ⟨j,?_⟩
  cases hR with
  | row hl=>
   rw [hb] at hl
   obtain ⟨o,ho,he⟩:=Option.map_eq_some_iff.1 hl
   cases o with
   | box=>simp [SO.ren] at he
   | fam=>simp [SO.ren] at he
   | ro=>simp [SO.ren] at he
   | row ids e sz ep n f=>
    simp only [SO.ren,SO.row.injEq] at he
    obtain ⟨rfl,rfl,rfl,rfl,rfl,rfl⟩:=he
    exact ⟨⟨ids,_,_,_,_,f⟩,qey hi,.row ho,rfl⟩
  | fam hl h=>
   rw [hb] at hl
   obtain ⟨o,ho,he⟩:=Option.map_eq_some_iff.1 hl
   cases o with
   | box=>simp [SO.ren] at he
   | row=>simp [SO.ren] at he
   | ro=>simp [SO.ren] at he
   | fam e sz cnt ep len f=>
    simp only [SO.ren,SO.fam.injEq] at he
    obtain ⟨rfl,rfl,rfl,rfl,rfl,rfl⟩:=he
    exact ⟨⟨[],_,_,_,_,_⟩,qey hi,.fam ho h,rfl⟩
theorem qmg {is:List Nat} {nx:Nat} (hd:is.Nodup) (hlt:∀ i∈is,i<nx) {i j:Nat} (h:names is nx i=names is nx j):i=j:=by
 have h1:=qex hd hlt i
 rw [h,qex hd hlt j] at h1
 cases h1;rfl
theorem Mem.leave {is:List Nat} {st0 st1:List (Nat × SO)} {n1:Nat} (hm:Mem c rd mp st nx w) (hstd:c.fre=stdF) (hd:is.Nodup) (hlt:∀ i∈is,i<nx) (hnm:Named st0 st (names is nx)) (hr:Rd.le rd rd')
  (hm':Mem ⟨w,rd,fun g=>∃ p,There st0 p∧blkOf mp (p.ren (names is nx))=some g,stdF⟩ rd' mp' st1 n1 w') (hn1:is.length≤n1) (hlt1:stLt n1 st1=true) (hrows:rowsLt n1 st1) (hp:Mp.le ((mp.pull (names is nx)).restrict is.length) mp') :
  Mp.le mp (mp.back mp' is nx)∧Mem c rd' (mp.back mp' is nx) (jc (names is nx) st1++qu is st) (nx+(n1 - is.length)) w':=by
 have hmids:∀ i x,look st i=some x→i<nx:=fun i x hx=>by have:=hm.ids i x hx;rw [hstd] at this;simp only [stdF] at this;omega
 have hpull:=qse (mp:=mp) (mp':=mp') hd hlt
 have hle:Mp.le mp (mp.back mp' is nx):=by
  refine ⟨fun y g hg=>?_,fun y i v e n hg=>?_⟩
  ·simp only [Mp.back]
   cases hi:inv is nx y with
   | none=>exact hg
   | some j=>
    simp only
    have hy:=qey hi
    have hj:j<is.length:=by
     unfold inv at hi
     split at hi
     ·rename_i hmem;cases hi;exact zaf hmem
     ·split at hi
      ·rename_i hge;rw [(hm.fresh y (by rw [hstd];exact hge)).1] at hg;cases hg
      ·cases hi
    exact hp.blk j g (by simp [Mp.restrict,Mp.pull,hj,hy,hg])
  ·simp only [Mp.back]
   cases hi:inv is nx y with
   | none=>exact ⟨v,e,n,hg,.inr ⟨rfl,.inr ⟨rfl,rfl⟩⟩⟩
   | some j=>
    simp only
    have hy:=qey hi
    have hj:j<is.length:=by
     unfold inv at hi
     split at hi
     ·rename_i hmem;cases hi;exact zaf hmem
     ·split at hi
      ·rename_i hge;rw [(hm.fresh y (by rw [hstd];exact hge)).2] at hg;cases hg
      ·cases hi
    exact hp.row j i v e n (by simp [Mp.restrict,Mp.pull,hj,hy,hg])
 have hid1:∀ j o,look st1 j=some o→j<n1∧o.lt n1=true:=by
  intro j o hx
  have:=(List.all_eq_true.1 hlt1) _ (qdv hx)
  simp only [zf,zl] at this
  exact ⟨by omega,this.2⟩
 have hfx:∀ g,(∃ p,There st0 p∧blkOf mp (p.ren (names is nx))=some g)→c.w0.heap.size≤g∨c.fx g:=by
  rintro g ⟨p,hp',hg⟩
  exact (hm.home (hnm.there hp') hg).2.2
 -- a place of the frame is none of the callee's
 have hframe:∀ p g,There st p→(match p with | .bx b=>inv is nx b | .rw r _=>inv is nx r)=none→blkOf mp p=some g→¬ ∃ q,There st0 q∧blkOf mp (q.ren (names is nx))=some g:=by
  rintro p g hp' hi hg ⟨q,hq,hgq⟩
  have he:=hm.inj p _ g hp' (hnm.there hq) hg hgq
  cases q with
  | bx b=>
   simp only [Pl.ren] at he
   subst he
   simp only [qex hd hlt] at hi
   cases hi
  | rw r i=>
   simp only [Pl.ren] at he
   subst he
   simp only [qex hd hlt] at hi
   cases hi
 have hkeep:∀ p g,There st p→(match p with | .bx b=>inv is nx b | .rw r _=>inv is nx r)=none→blkOf mp p=some g→w'.heap[g]?=w.heap[g]?∧∀ o,rd' g o=none:=by
  intro p g hp' hi hg
  obtain ⟨h1,h2,_⟩:=hm.home hp' hg
  refine ⟨hm'.fr.block g h1 (hframe p g hp' hi hg),fun o=>?_⟩
  cases hv:rd' g o with
  | none=>rfl
  | some v=>
   rcases hm'.rdn g o v hv with h|h|h
   ·have h':rd g o=some v:=h
    rw [h2 o] at h';cases h'
   ·have h':w.heap.size≤g:=h
    omega
   ·exact absurd h (hframe p g hp' hi hg)
 have hnew:∀ p g,There st1 p→blkOf mp' p=some g→(c.w0.heap.size≤g∨c.fx g)∧(w.heap.size≤g∨∃ q,There st0 q∧blkOf mp (q.ren (names is nx))=some g):=by
  intro p g hp' hg
  rcases (hm'.home hp' hg).2.2 with h|h
  ·have h':w.heap.size≤g:=h
   exact ⟨.inl (xb hm.fr.size h'),.inl h'⟩
  ·exact ⟨hfx g h,.inr h⟩
 have hblk1:∀ p,blkOf (mp.back mp' is nx) (p.ren (names is nx))=blkOf mp' p:=by
  intro p
  rw [← jhh,hpull]
 have hblk0:∀ p:Pl,(match p with | .bx b=>inv is nx b | .rw r _=>inv is nx r)=none→blkOf (mp.back mp' is nx) p=blkOf mp p:=by
  intro p hi
  cases p with
  | bx b=>simp only at hi;simp [blkOf,Mp.back,hi]
  | rw r i=>simp only at hi;simp [blkOf,Mp.back,hi]
 -- a place of the new store
 have hcase:∀ p,There (jc (names is nx) st1++qu is st) p→(∃ q,There st1 q∧p=q.ren (names is nx))∨(There st p∧(match p with | .bx b=>inv is nx b | .rw r _=>inv is nx r)=none):=by
  intro p hp'
  cases p with
  | bx b=>
   obtain ⟨ty,cs,hl⟩:=hp'
   rw [qbq hd hlt hmids] at hl
   cases hi:inv is nx b with
   | none=>rw [hi] at hl;exact .inr ⟨⟨ty,cs,hl⟩,hi⟩
   | some j=>
    rw [hi] at hl
    obtain ⟨o,ho,he⟩:=Option.map_eq_some_iff.1 hl
    obtain ⟨cs0,rfl,_⟩:=SO.ren_box he
    exact .inl ⟨.bx j,⟨ty,cs0,ho⟩,by simp [Pl.ren,qey hi]⟩
  | rw r i=>
   obtain ⟨R,hR⟩:=hp'
   rcases qxk hd hlt hmids hR with ⟨j,R0,rfl,h1,_⟩|⟨hi,h1⟩
   ·exact .inl ⟨.rw j i,⟨R0,h1⟩,rfl⟩
   ·exact .inr ⟨⟨R,h1⟩,hi⟩
 refine ⟨hle,hm'.rdw,hm'.rd1,fun g o v hv=>?_,⟨hm'.fr.os.trans hm.fr.os,hm'.fr.tape.trans hm.fr.tape,hm'.fr.output.trans hm.fr.output,xb hm.fr.size hm'.fr.size,fun k hk hf=>?_⟩,fun b ty cs hl=>?_,fun r i R hR=>?_,fun p q g hp' hq' hgp hgq=>?_,fun y hy=>?_,fun y x hx=>?_,fun r e sz cnt ep len f hl i hi=>?_,fun r sz ep n f hl=>?_,hm.tab.1,hm.tab.2.trans hm'.tab.2⟩
 ·rcases hm'.rdn g o v hv with h|h|h
  ·exact hm.rdn g o v h
  ·exact .inr (.inl (xb hm.fr.size h))
  ·exact .inr (hfx g h)
 ·rw [← hm.fr.block k hk hf]
  refine hm'.fr.block k (zae hk hm.fr.size) (fun h=>?_)
  rcases hfx k h with h|h
  ·omega
  ·exact hf h
 ·rw [qbq hd hlt hmids] at hl
  cases hi:inv is nx b with
  | none=>
   rw [hi] at hl
   exact (hm.bx b ty cs hl).keep hr hle (fun g hg=>hkeep (.bx b) g ⟨ty,cs,hl⟩ hi hg)
  | some j=>
   rw [hi] at hl
   obtain ⟨o,ho,he⟩:=Option.map_eq_some_iff.1 hl
   obtain ⟨cs0,rfl,rfl⟩:=SO.ren_box he
   obtain ⟨g,vs,h1,h2,h3,h4,h5,h6⟩:=hm'.bx j ty cs0 ho
   refine ⟨g,vs,by simp [Mp.back,hi,h1],h2,by simpa using h3,?_,h5,(hnew (.bx j) g ⟨ty,cs0,ho⟩ h1).1⟩
   refine (qio (ι:=names is nx) (n:=n1) (hid1 _ _ ho).2).1 ?_
   rw [hpull]
   exact h4
 ·rcases qxk hd hlt hmids hR with ⟨j,R0,rfl,h1,rfl⟩|⟨hi,h1⟩
  ·obtain ⟨v,xs,g1,g2,g3,g4,g5⟩:=hm'.mb j i R0 h1
   refine ⟨v,xs,by simp only [Mp.back,qex hd hlt];exact g1,g2,fun k hk=>by rw [RowV.ren_len];exact g3 k hk,?_,fun g hg=>⟨(g5 g hg).1,(hnew (.rw j i) g ⟨R0,h1⟩ (by simp [blkOf,g1,hg])).1⟩⟩
   have hids:∀ q∈R0.ids,q<n1:=by
    intro q hq
    cases h1 with
    | row hl=>
     have:=List.all_eq_true.1 (hid1 _ _ hl).2 q hq
     simp only [zl] at this;omega
    | fam hl _=>simp at hq
   refine (qou (ι:=names is nx) (n:=n1) (fun hne=>qot hrows h1 hne) (fun i j _ _ h=>qmg hd hlt h) hids).1 ?_
   rw [hpull]
   exact g4
  ·exact (hm.mb r i R h1).keep hr hle (by simp [Mp.back,hi]) (fun g hg=>hkeep (.rw r i) g ⟨R,h1⟩ hi hg)
 ·rcases hcase p hp' with ⟨p0,h0,rfl⟩|⟨h0,hi0⟩
  ·rw [hblk1] at hgp
   rcases hcase q hq' with ⟨q0,k0,rfl⟩|⟨k0,ki0⟩
   ·rw [hblk1] at hgq
    rw [hm'.inj p0 q0 g h0 k0 hgp hgq]
   ·rw [hblk0 q ki0] at hgq
    exfalso
    rcases (hnew p0 g h0 hgp).2 with h|h
    ·have:=(hm.home k0 hgq).1;omega
    ·exact hframe q g k0 ki0 hgq h
  ·rw [hblk0 p hi0] at hgp
   rcases hcase q hq' with ⟨q0,k0,rfl⟩|⟨k0,ki0⟩
   ·rw [hblk1] at hgq
    exfalso
    rcases (hnew q0 g k0 hgq).2 with h|h
    ·have:=(hm.home h0 hgp).1;omega
    ·exact hframe p g h0 hi0 hgp h
   ·rw [hblk0 q ki0] at hgq
    exact hm.inj p q g h0 k0 hgp hgq
 ·rw [hstd] at hy
  simp only [stdF] at hy
  have hinv:inv is nx y=some (is.length+(y - nx)):=by
   unfold inv
   rw [za (fun hmem=>by have:=hlt y hmem;omega),zb (by omega)]
  have:=hm'.fresh (is.length+(y - nx)) (by simp only [stdF];omega)
  simp only [Mp.back,hinv]
  exact this
 ·rw [qbq hd hlt hmids] at hx
  cases hi:inv is nx y with
  | none=>rw [hi] at hx;have:=hmids y x hx;rw [hstd];simp only [stdF];omega
  | some j=>
   rw [hi] at hx
   obtain ⟨o,ho,_⟩:=Option.map_eq_some_iff.1 hx
   have hj:=(hid1 j o ho).1
   have hy:=qey hi
   rw [← hy,hstd]
   simp only [stdF,Nat.not_le]
   unfold names
   split
   ·rename_i hjl
    have:is.getD j 0∈is:=by simp [List.getD,hjl]
    have:=hlt _ this
    omega
   ·omega
 ·rw [qbq hd hlt hmids] at hl
  cases hin:inv is nx r with
  | none=>
   rw [hin] at hl
   simp only [Mp.back,hin]
   exact hm.out _ _ _ _ _ _ _ hl i hi
  | some j=>
   rw [hin] at hl
   obtain ⟨o,ho,he⟩:=Option.map_eq_some_iff.1 hl
   cases o with
   | box=>simp [SO.ren] at he
   | row=>simp [SO.ren] at he
   | ro=>simp [SO.ren] at he
   | fam e0 sz0 cnt0 ep0 len0 f0=>
    simp only [SO.ren,SO.fam.injEq] at he
    obtain ⟨rfl,rfl,rfl,rfl,rfl,rfl⟩:=he
    simp only [Mp.back,hin]
    exact hm'.out _ _ _ _ _ _ _ ho i hi
 ·rw [qbq hd hlt hmids] at hl
  cases hin:inv is nx r with
  | none=>
   rw [hin] at hl
   obtain ⟨v,h1,h2⟩:=hm.ro _ _ _ _ _ hl
   exact ⟨v,by simp only [Mp.back,hin];exact h1,h2.mono hr (Mp.le.refl _)⟩
  | some j=>
   rw [hin] at hl
   obtain ⟨o,ho,he⟩:=Option.map_eq_some_iff.1 hl
   cases o with
   | box=>simp [SO.ren] at he
   | row=>simp [SO.ren] at he
   | fam=>simp [SO.ren] at he
   | ro sz0 ep0 n0 f0=>
    simp only [SO.ren,SO.ro.injEq] at he
    obtain ⟨rfl,rfl,rfl,rfl⟩:=he
    obtain ⟨v,h1,h2⟩:=hm'.ro _ _ _ _ _ ho
    exact ⟨v,by simp only [Mp.back,hin];exact h1,h2⟩
theorem SoLe.refl (o:SO):SoLe o o:=by
 cases o with
 | box=>exact ⟨rfl,LeL.refl _⟩
 | row=>exact ⟨⟨rfl,rfl,rfl⟩,rfl,rfl,fun _ _=>LeL.refl _⟩
 | fam=>exact ⟨⟨rfl,rfl⟩,rfl,fun _ _=>⟨rfl,rfl⟩,fun _ _ _ _=>LeL.refl _⟩
 | ro=>exact ⟨rfl,rfl,rfl,fun _ _=>rfl⟩
def SubL (st st':List (Nat × SO)):Prop:=∀ i x,look st' i=some x→∃ y,look st i=some y∧SoLe y x
theorem SubL.box {st':List (Nat × SO)} (h:SubL st st') {b:Nat} {ty:TypeId} {cs:List AV} (hl:look st' b=some (.box ty cs)):∃ cs',look st b=some (.box ty cs')∧LeL cs' cs:=by
 obtain ⟨y,hy,hle⟩:=h b _ hl
 cases y with
 | box t c=>obtain ⟨rfl,hc⟩:=hle;exact ⟨c,hy,hc⟩
 | row=>exact False.elim hle
 | fam=>exact False.elim hle
 | ro=>exact False.elim hle
theorem SubL.mem {st':List (Nat × SO)} (h:SubL st st') {r i:Nat} {R:RowV} (hR:IsMem st' r i R):∃ R',IsMem st r i R'∧R'.ids=R.ids∧R'.e=R.e∧R'.sz=R.sz∧R'.ep=R.ep∧R'.n=R.n∧∀ k,k<R'.n→LeL (R'.f k) (R.f k):=by
 cases hR with
 | row hl=>
  obtain ⟨y,hy,hle⟩:=h _ _ hl
  cases y with
  | box=>exact False.elim hle
  | row ids e sz ep n f=>obtain ⟨⟨rfl,rfl,rfl⟩,rfl,rfl,hf⟩:=hle;exact ⟨_,.row hy,rfl,rfl,rfl,rfl,rfl,hf⟩
  | fam=>exact False.elim hle
  | ro=>exact False.elim hle
 | fam hl hi=>
  obtain ⟨y,hy,hle⟩:=h _ _ hl
  cases y with
  | box=>exact False.elim hle
  | row=>exact False.elim hle
  | ro=>exact False.elim hle
  | fam e sz cnt ep len f=>
   obtain ⟨⟨rfl,rfl⟩,rfl,h1,hf⟩:=hle
   exact ⟨_,.fam hy hi,rfl,rfl,rfl,(h1 _ hi).1,(h1 _ hi).2,fun k hk=>hf _ k hi hk⟩
theorem Mem.weak (hm:Mem c rd mp st nx w) {st':List (Nat × SO)} (hs:SubL st st'):Mem c rd mp st' nx w:=by
 have old:∀ p,There st' p→There st p:=by
  intro p hp
  cases p with
  | bx b=>obtain ⟨ty,cs,hl⟩:=hp;obtain ⟨cs',h,_⟩:=hs.box hl;exact ⟨ty,cs',h⟩
  | rw r i=>obtain ⟨R,hR⟩:=hp;obtain ⟨R',h,_⟩:=hs.mem hR;exact ⟨R',h⟩
 refine ⟨hm.rdw,hm.rd1,hm.rdn,hm.fr,fun b ty cs hl=>?_,fun r i R hR=>?_,fun p q g hp hq=>hm.inj p q g (old p hp) (old q hq),hm.fresh,fun i x hx=>?_,fun r e sz cnt ep len f hl i hi=>?_,fun r sz ep n f hl=>?_,hm.tab⟩
 ·obtain ⟨cs',hl',hle⟩:=hs.box hl
  obtain ⟨g,vs,h1,h2,h3,h4,h5,h6⟩:=hm.bx b ty cs' hl'
  refine ⟨g,vs,h1,h2,by rw [h3,hle.get.1],fun j z v hz hv=>?_,h5,h6⟩
  have hj:j<cs'.length:=by rw [hle.get.1];exact (List.getElem?_eq_some_iff.1 hz).1
  exact (hle.get.2 j cs'[j] z (ze hj) hz).rel (h4 j cs'[j] v (ze hj) hv)
 ·obtain ⟨R',hR',h1,h2,h3,h4,h5,h6⟩:=hs.mem hR
  exact (hm.mb r i R' hR').le h1 h2 h3 h4 h5 h6
 ·obtain ⟨y,hy,_⟩:=hs i x hx
  exact hm.ids i y hy
 ·obtain ⟨y,hy,hle⟩:=hs _ _ hl
  cases y with
  | box=>exact False.elim hle
  | row=>exact False.elim hle
  | ro=>exact False.elim hle
  | fam e0 sz0 cnt0 ep0 len0 f0=>
   obtain ⟨_,rfl,_⟩:=hle
   exact hm.out _ _ _ _ _ _ _ hy i hi
 ·obtain ⟨y,hy,hle⟩:=hs _ _ hl
  cases y with
  | box=>exact False.elim hle
  | row=>exact False.elim hle
  | fam=>exact False.elim hle
  | ro sz0 ep0 n0 f0=>
   obtain ⟨rfl,rfl,rfl,hf⟩:=hle
   obtain ⟨v,h1,h2⟩:=hm.ro _ _ _ _ _ hy
   exact ⟨v,h1,(Le.slc rfl hf).rel h2⟩
def NamedL (st:List (Nat × SO)) (ι:Nat→Nat):List Nat→List SO→Prop
 | [],[]=>True
 | i::is,o::os=>(match look st i with|some y=>SoLe y (o.ren ι)|none=>False)∧NamedL st ι is os
 | _,_=>False
theorem NamedL.get {ι:Nat→Nat}:∀ {is:List Nat} {os:List SO},NamedL st ι is os→is.length=os.length∧∀ (j:Nat) o,os[j]?=some o→∃ y,look st (is.getD j 0)=some y∧SoLe y (o.ren ι)
 | [],[],_=>⟨rfl,fun j o h=>by simp at h⟩
 | i::is,o::os,h=>by
  obtain ⟨h1,h2⟩:=NamedL.get h.2
  refine ⟨by simp [h1],fun j o' ho=>?_⟩
  cases j with
  | zero=>
   simp only [List.getElem?_cons_zero,Option.some.injEq] at ho
   subst ho
   have h0:=h.1
   split at h0
   ·rename_i y hy;exact ⟨y,by simpa using hy,h0⟩
   ·exact False.elim h0
  | succ j=>simp only [zaa] at ho;simpa using h2 j o' ho
 | [],_::_,h=>False.elim h
 | _::_,[],h=>False.elim h
def qmh:List Nat→Bool
 | []=>true
 | i::is=>!is.any (Nat.beq i) && qmh is
theorem qkg:∀ {is:List Nat},qmh is=true→is.Nodup
 | [],_=>List.nodup_nil
 | i::is,h=>by
  simp only [qmh,zf,xd,qxi,decide_eq_false_iff_not] at h
  exact List.nodup_cons.2 ⟨h.1,qkg h.2⟩
def qdz (is:List Nat) (nx:Nat) (args:List AV) (st0:List SO) (res:AV) (st1:List (Nat × SO)) (n1:Nat):Bool:=
 qmh is && is.all (fun i=>Nat.ble (i+1) nx) && stLt st0.length (idx 0 st0) && args.all (AV.lt st0.length) && stLt n1 st1 && res.lt n1 && Nat.ble st0.length n1
theorem qip {sl:List (Nat × AV)} {E:Env} {B:Nat→ASt→Prop} {f:FuncId} {args:List AV} {dst:Option Nat} {full:Array Oper} {rest:List Oper} {k:List Itm} (hT:∀ t,E.T t=tab E.P t) (n:Nat) (is:List Nat) {args':List AV} {st0:List SO} {res:AV} {st1:List (Nat × SO)} {n1:Nat}
  (ht:Trip E.P f args' st0 res st1 n1) (hchk:qdz is nx args' st0 res st1 n1=true) (hl:LeL args (args'.map (AV.ren (names is nx)))) (hnm:NamedL st (names is nx) is st0) (hr0:rowsLt st0.length (idx 0 st0)) (hr1:rowsLt n1 st1) (hd:jm E dst=true)
  (h:frcN (nx+(n1 - is.length)) fun nx'=>qao (jc (names is nx) st1++qu is st) fun st'=>frc (res.ren (names is nx)) (je sl dst (fun sl'=>exec E B n (.ops full rest::k) ⟨sl',st',nx'⟩))) :
  qay E B f args dst full rest k ⟨sl,st,nx⟩:=by
 rw [jp,qaz,ju,jd,qhf] at h
 simp only [qdz,zf,zl] at hchk
 obtain ⟨⟨⟨⟨⟨⟨c1,c2⟩,c3⟩,c4⟩,c5⟩,c6⟩,c7⟩:=hchk
 have hnd:=qkg c1
 have hlt:∀ i∈is,i<nx:=fun i hi=>by have:=List.all_eq_true.1 c2 i hi;simp only [zl] at this;omega
 obtain ⟨hlen,hnm'⟩:=hnm.get
 unfold qay
 intro rd mp a w vs hs hrd hsz hargs
 have hsi:∀ i x,look st i=some x→i<nx:=fun i x hx=>by have:=hs.mem.ids i x hx;rw [hrd.std] at this;simp only [stdF] at this;omega
 -- the store, aS the contract tells of it
 have hsub:SubL st (jc (names is nx) (idx 0 st0)++qu is st):=by
  intro y x hx
  rw [qbq hnd hlt hsi] at hx
  cases hi:inv is nx y with
  | none=>rw [hi] at hx;exact ⟨x,hx,SoLe.refl x⟩
  | some j=>
   rw [hi] at hx
   obtain ⟨o,ho,rfl⟩:=Option.map_eq_some_iff.1 hx
   rw [qkf,zb (xv _),Nat.sub_zero] at ho
   obtain ⟨z,hz,hle⟩:=hnm' j o ho
   have hj:j<is.length:=by rw [hlen];exact (List.getElem?_eq_some_iff.1 ho).1
   have hy:=qey hi
   unfold names at hy
   rw [zb hj] at hy
   rw [← hy]
   exact ⟨z,hz,hle⟩
 have hm1:=hs.mem.weak hsub
 have hnamed:Named (idx 0 st0) (jc (names is nx) (idx 0 st0)++qu is st) (names is nx):=by
  refine ⟨fun j o hj=>?_⟩
  rw [qbq hnd hlt hsi,qex hnd hlt]
  simp only
  rw [hj];rfl
 have hent:=hm1.enter hnamed c3 hr0 (fun i j _ _ h=>qmg hnd hlt h)
 have hargs0:RelL rd ((mp.pull (names is nx)).restrict st0.length) args' vs:=by
  have h1:=hargs.le hl
  refine ⟨by rw [h1.1,zu],fun j x v hx hv=>?_⟩
  have hxl:=List.all_eq_true.1 c4 x (zh hx)
  exact ((qfu hxl).2 (h1.2 j _ v (by rw [zg,hx];rfl) hv)).lt hxl
 refine (ht _ rd _ w vs rfl rfl rfl hent hargs0).mono ?_ (fun _ _ h=>False.elim h)
 rintro v w' ⟨rd',mp',h1,h2,h3,h4⟩
 rw [← hlen] at h3
 obtain ⟨hle,hfin⟩:=hm1.leave hrd.std hnd hlt hnamed h2 h4 (by omega) c5 hr1 h3
 have hfin':Mem E.c rd' (mp.back mp' is nx) (jc (names is nx) st1++qu is st) (nx+(n1 - is.length)) w':=by
  refine hfin.forget (fun y x hx=>?_)
  have e1:=qbq (st:=st) hnd hlt hsi st1 y
  have e2:=qbq (st:=jc (names is nx) (idx 0 st0)++qu is st) hnd hlt (fun i x hx=>by have:=hm1.ids i x hx;rw [hrd.std] at this;simp only [stdF] at this;omega) st1 y
  have e3:=qbq (st:=st) hnd hlt hsi (idx 0 st0) y
  rw [e1] at hx
  refine e2.trans ?_
  cases hi:inv is nx y with
  | none=>
   rw [hi] at hx e3
   exact e3.trans hx
  | some j=>
   rw [hi] at hx
   exact hx
 have hres:Rel rd' (mp.back mp' is nx) (res.ren (names is nx)) v:=by
  refine (qfu c6).1 ?_
  rw [qse hnd hlt]
  exact h1
 exact qbk hT n _ _ h rd' _ _ w' (hs.put h2 hle hfin' hres (qft hd hsz)) (hrd.step h2 hle) (by rw [qdd];exact hsz)
def qsf (res:AV) (st1:List (Nat × SO)):List (Nat × SO)→Nat→AV→Prop:=fun st _ v=>Le v res∧SubSt st st1
theorem jhi {P:Program} {T:Nat→TI} {C:Cfg} {f:FuncId} {fn:Func} {body:Code} {args:List AV} {st0:List SO} {res:AV} {st1:List (Nat × SO)} {n1:Nat} (n:Nat) (hT:∀ t,T t=tab P t) (hf:P.funcs[f]?=some fn) (hb:fn.body=some body)
  (hname : (fn.name == "runtime.NumGoroutine") = false) (hn : (Nat.ble args.length fn.ntmps && stLt n1 st1 && res.lt n1 && Nat.ble st0.length n1) = true)
  (h:∀ (c:Ctx) (rdb:Rd) (mpb:Mp),exec { P:=P,T:=T,C:=C,fn:=fn,c:=c,rdb:=rdb,mpb:=mpb,nxb:=st0.length,R:=qsf res st1,X:=fun _ _ _=>False } (fun _ _=>False) n [.code body] ⟨qch 0 args,idx 0 st0,st0.length⟩):Trip P f args st0 res st1 n1:=by
 intro c rd mp w vs hw hrd0 hstd hm hargs
 simp only [zf,zl] at hn
 obtain ⟨⟨⟨n1',n2⟩,n3⟩,n4⟩:=hn
 have hname' : fn.name ≠ "runtime.NumGoroutine" := by simpa using hname
 refine .inl ⟨by simp [callFunc,hf,hname',hb,mark],?_⟩
 have hok:=qbk (E:={ P:=P,T:=T,C:=C,fn:=fn,c:=c,rdb:=rd,mpb:=mp,nxb:=st0.length,R:=qsf res st1,X:=fun _ _ _=>False }) (B:=fun _ _=>False) hT n _ _ (h c rd mp)
 obtain ⟨hsl,hsz⟩:=qii (fn:=fn) n1' hargs
 have hwp:=hok rd mp ⟨vs++Array.replicate (fn.ntmps - vs.size) undef,[]⟩ w ⟨hsl,rfl,hm⟩ ⟨Rd.le.refl _,Mp.le.refl _,fun i hi=>hm.fresh i (by rw [hstd];exact hi),hstd⟩ hsz
 refine (calls_of_wp hf hb hwp).mono fun e w' he=>?_
 match e,he with
 | .returned v,he=>
  obtain ⟨x,rd',mp',st,nx,h1,h2,h3,h4⟩:=he
  refine .inl ⟨v,rfl,rd',mp'.restrict n1,(h1.1.rel h2).lt n3,h4.rd,Mp.le_restrict h4.mp (fun i hi=>hm.fresh i (by rw [hstd];simp only [stdF];omega)),h3.sub hstd h1.2 n2⟩
 | .panicked [⟨v,false,false⟩],he=>obtain ⟨x,rd',mp',st,nx,h1,_⟩:=he;exact False.elim h1
end Go.Sx
end
section
namespace Go.Sx
open List renaming getD_eq_getElem?_getD → zd
open Go Go.RowKit
universe u
theorem qkh {α:Sort u} (n:Nat) (K:Nat→α):fzN n K=K n:=by cases n <;> rfl
theorem jhj {α:Sort u} (n:Int) (K:Int→α):fzI n K=K n:=by cases n <;> simp only [fzI,qkh]
theorem qxl {α:Sort u}:∀ (l:List UInt8) (K:List UInt8→α),fzS l K=K l
 | [],_=>rfl
 | b::l,K=>by simp only [fzS];exact qxl l _
theorem qxm {α:Sort u} (v:AV) (K:AV→α):fz1 v K=K v:=by
 cases v <;> simp only [fz1,qkh,jhj,qxl]
 ·rename_i b;cases b <;> rfl
 ·rename_i b v;cases b <;> rfl
theorem qov {α:Sort u}:∀ (l:List AV) (K:List AV→α),fzL1 l K=K l
 | [],_=>rfl
 | x::l,K=>by simp only [fzL1,qxm];exact qov l _
theorem qxn {α:Sort u} (v:AV) (K:AV→α):fzA v K=K v:=by cases v <;> simp only [fzA,qov,qxm]
theorem qxo {α:Sort u}:∀ (l:List AV) (K:List AV→α),fzLA l K=K l
 | [],_=>rfl
 | x::l,K=>by simp only [fzLA,qxn];exact qxo l _
theorem qsg {α:Sort u} (v:AV) (K:AV→α):fz v K=K v:=by cases v <;> simp only [fz,qxo,qxn]
def tabL (f:Nat→List AV):Nat→List (List AV)→List (List AV)
 | 0,acc=>acc
 | k+1,acc=>tabL f k (f k::acc)
theorem qxp {α:Sort u} (f:Nat→List AV):∀ (n:Nat) (acc:List (List AV)) (K:List (List AV)→α),tabK f n acc K=K (tabL f n acc)
 | 0,_,_=>rfl
 | n+1,acc,K=>by simp only [tabK,qov,tabL];exact qxp f n _ K
theorem qxq (f:Nat→List AV):∀ (n:Nat) (acc:List (List AV)) (i:Nat),(tabL f n acc)[i]?=if i<n then some (f i) else acc[i - n]?
 | 0,acc,i=>by simp [tabL]
 | n+1,acc,i=>by
  rw [tabL,qxq f n]
  by_cases h1:i<n
  ·rw [zb h1,zb (by omega)]
  ·rw [za h1]
   by_cases h2:i=n
   ·subst h2;simp
   ·rw [za (by omega),show i - n=(i - (n+1))+1 by omega,zaa]
theorem jhk (f:Nat→List AV) {n i:Nat} (h:i<n):tabF (tabL f n []) i=f i:=by
 unfold tabF
 rw [zd,qxq,zb h];rfl
def nrmO:SO→SO
 | .row ids e sz ep n f=>.row ids e sz ep n (tabF (tabL f n []))
 | o=>o
def qiq (p:Nat→Bool):List (Nat × SO)→List (Nat × SO)
 | []=>[]
 | (i,o)::r=>(i,bif p i then nrmO o else o)::qiq p r
theorem jhl {α:Sort u} (b:Bool) (o:SO) (K:SO→α):nz1 b o K=K (bif b then nrmO o else o):=by
 cases b with
 | false=>rfl
 | true=>cases o <;> simp only [nz1,nrmO,qkh,qxp,qov,cond_true]
theorem qsh {α:Sort u} (p:Nat→Bool):∀ (st:List (Nat × SO)) (K:List (Nat × SO)→α),nz p st K=K (qiq p st)
 | [],_=>rfl
 | (i,o)::r,K=>by simp only [nz,qkh,jhl,qiq];exact qsh p r _
theorem qxr (p:Nat→Bool):∀ (st:List (Nat × SO)) (i:Nat),look (qiq p st) i=(look st i).map fun o=>bif p i then nrmO o else o
 | [],_=>rfl
 | (j,o)::r,i=>by
  simp only [qiq,qq]
  by_cases h:j=i
  ·subst h;simp
  ·rw [za h,za h];exact qxr p r i
theorem jhm (o:SO):SoLe o (nrmO o):=by
 cases o with
 | row ids e sz ep n f=>exact ⟨⟨rfl,rfl,rfl⟩,rfl,rfl,fun i hi=>LeL.of_eq (jhk f hi).symm⟩
 | _=>exact SoLe.refl _
theorem jhn (p:Nat→Bool) (st:List (Nat × SO)):SubL st (qiq p st):=by
 intro i x h
 rw [qxr] at h
 cases hl:look st i with
 | none=>rw [hl] at h;cases h
 | some o=>
  rw [hl] at h
  simp only [xe,Option.some.injEq] at h
  subst h
  refine ⟨o,rfl,?_⟩
  cases p i
  ·exact SoLe.refl _
  ·exact jhm o
theorem SR.nrm {c:Ctx} {rd:Rd} {mp:Mp} {sl:List (Nat × AV)} {st:List (Nat × SO)} {nx:Nat} {a:Act} {w:World} (h:SR c rd mp ⟨sl,st,nx⟩ a w) (p:Nat→Bool):SR c rd mp ⟨sl,qiq p st,nx⟩ a w:=
 ⟨h.slots,h.defers,h.mem.weak (jhn p st)⟩
def dd:List (Nat × AV)→List Nat→List (Nat × AV)
 | [],_=>[]
 | (t,v)::r,seen=>match inS seen t with|true=>dd r seen|false=>(t,v)::dd r (t::seen)
theorem qsi {α:Sort u}:∀ (sl:List (Nat × AV)) (seen:List Nat) (K:List (Nat × AV)→α),ddK sl seen K=K (dd sl seen)
 | [],_,_=>rfl
 | (t,v)::r,seen,K=>by
  simp only [ddK,dd]
  cases inS seen t with
  | true=>exact qsi r seen K
  | false=>exact qsi r _ _
theorem qsj:∀ (sl:List (Nat × AV)) (seen:List Nat) (t:Nat),inS seen t=false→look (dd sl seen) t=look sl t
 | [],_,_,_=>rfl
 | (u,v)::r,seen,t,h=>by
  simp only [dd]
  cases hu:inS seen u with
  | true=>
   simp only [qq]
   have:u≠t:=by rintro rfl;rw [hu] at h;cases h
   rw [za this]
   exact qsj r seen t h
  | false=>
   simp only [qq]
   by_cases hut:u=t
   ·rw [zb hut,zb hut]
   ·rw [za hut,za hut]
    refine qsj r _ t ?_
    have:Nat.beq u t=false:=by
     cases hb:Nat.beq u t with
     | false=>rfl
     | true=>exact absurd (zj hb) hut
    simp only [inS,this,cond_false];exact h
theorem SR.dd {c:Ctx} {rd:Rd} {mp:Mp} {sl:List (Nat × AV)} {st:List (Nat × SO)} {nx:Nat} {a:Act} {w:World} (h:SR c rd mp ⟨sl,st,nx⟩ a w):SR c rd mp ⟨Sx.dd sl [],st,nx⟩ a w:=
 ⟨fun t=>by have:=h.slots t;simp only [ASt.get] at this ⊢;rw [qsj sl [] t rfl];exact this,h.defers,h.mem⟩
theorem jho {α:Sort u} (sl:List (Nat × AV)) (d:Option Nat) (v:AV) (K:List (Nat × AV)→α):putK sl d v K=K (qbj sl d v):=by cases d <;> rfl
theorem qow {ob:Option DP} (h:chk ob=true):obT ob:=by
 cases ob with
 | none=>trivial
 | some d=>obtain ⟨p,b,hb⟩:=d;exact hb h
theorem qxs {x y:AV} (h:qmd x y=true):x=y:=by
 unfold qmd at h
 split at h <;> simp at h <;> simp_all
theorem Le.rptrL {xs ys:List AV} (h:LeL xs ys):Le (.rptr xs) (.rptr ys):=by
 unfold Le
 intro rd mp v r
 obtain ⟨hl,hle⟩:=h.get
 cases r with
 | rptr _ _ blk off val hr he=>
  refine .rptr _ _ _ _ val (fun j x hx=>?_) (fun j x hx=>?_)
  ·have hj:j<xs.length:=by rw [hl];exact (List.getElem?_eq_some_iff.1 hx).1
   exact hr j _ (ze hj)
  ·have hj:j<xs.length:=by rw [hl];exact (List.getElem?_eq_some_iff.1 hx).1
   exact (hle j _ x (ze hj) hx).rel (he j _ (ze hj))
theorem qmi {p:AV→AV→Bool} (h:∀ x y,p x y=true→Le x y):∀ {xs ys:List AV},qgl p xs ys=true→LeL xs ys
 | [],[],_=>trivial
 | x::xs,y::ys,hz=>by
  simp only [qgl,zf] at hz
  exact ⟨h x y hz.1,qmi h hz.2⟩
 | [],_::_,hz=>by simp [qgl] at hz
 | _::_,[],hz=>by simp [qgl] at hz
theorem qxt:∀ (n:Nat) (x y:AV),leB n x y=true→Le x y:=by
 intro n
 induction n with
 | zero=>intro x y h;simp [leB] at h
 | succ n ih=>
  intro x y h
  have same:∀ {x y},qmd x y=true→Le x y:=fun h=>by rw [qxs h];exact Le.refl _
  cases y with
  | any=>exact Le.any x
  | int k' m'=>
   cases x <;> simp [leB] at h
   obtain ⟨rfl,rfl⟩:=h
   exact Le.refl _
  | bool b'=>
   cases x <;> simp [leB] at h
   subst h
   exact Le.refl _
  | str l'=>
   cases x <;> simp [leB] at h
   subst h
   exact Le.refl _
  | nils=>cases x <;> simp [leB] at h;exact Le.refl _
  | nilp=>cases x <;> simp [leB] at h;exact Le.refl _
  | slc sz' m' f'=>
   cases x with
   | nils=>
    simp only [leB,xk] at h
    subst h
    exact Le.nils _ _
   | slc sz m f=>
    simp only [leB,zf,xk] at h
    obtain ⟨⟨rfl,rfl⟩,h⟩:=h
    exact Le.slcL rfl (fun i hi=>qmi ih (List.all_eq_true.1 h i (List.mem_range.2 hi)))
   | _=>simp [leB] at h
  | rptr ys=>
   cases x with
   | rptr xs=>exact Le.rptrL (qmi ih h)
   | _=>simp [leB] at h
  | agg ys=>
   cases x with
   | agg xs=>exact Le.agg (qmi ih h)
   | _=>simp [leB] at h
  | tup ys=>
   cases x with
   | tup xs=>exact Le.tup (qmi ih h)
   | _=>simp [leB] at h
  | cnd b y=>
   cases b with
   | true=>exact same h
   | false=>
    cases x with
    | cnd b' x=>
     cases b' with
     | true=>simp [leB] at h
     | false=>simp only [leB] at h;rw [qxs h];exact Le.refl _
    | _=>simp [leB] at h
  | fn f cs=>
   cases cs with
   | cons=>exact same h
   | nil=>
    cases x with
    | fn g ds=>
     cases ds with
     | cons=>simp [leB] at h
     | nil=>simp only [leB,xk] at h;rw [h];exact Le.refl _
    | _=>simp [leB] at h
  | _=>exact same h
def CallS (P:Program) (c:Ctx) (call:FuncId→List AV→List (Nat × SO)→Nat→CR):Prop:=
 ∀ g args st nx st' nx' v,call g args st nx=.ok st' nx' v→∀ rd mp w vs,Mem c rd mp st nx w→RelL rd mp args vs→
  Invokes P g vs w (fun x w'=>∃ rd' mp',Rd.le rd rd'∧Mp.le mp mp'∧Mem c rd' mp' st' nx' w'∧Rel rd' mp' v x) (fun _ _=>False)
def mkE (D:CE) (f:FuncId) (fn:Func) (c:Ctx) (rdb:Rd) (mpb:Mp) (nxb:Nat) (R X:List (Nat × SO)→Nat→AV→Prop):Env:=
 { P:=D.P,T:=D.T,C:=D.cf f,fn:=fn,c:=c,rdb:=rdb,mpb:=mpb,nxb:=nxb,R:=R,X:=X }
theorem qox {D:CE} (hT:∀ t,D.T t=tab D.P t) {f:FuncId} {fn:Func} {c:Ctx} {rdb:Rd} {mpb:Mp} {nxb:Nat} {R X:List (Nat × SO)→Nat→AV→Prop} (hstd:c.fre=stdF)
  {full:Array Oper} {s:ASt} {o:Oper} {call:FuncId→List AV→List (Nat × SO)→Nat→CR} (hcall:CallS D.P c call) {v:AV} {wr:Bool} {st':List (Nat × SO)} {nx':Nat}
  (h:cstep D f fn full s o call=.go v wr st' nx') (ob:Prop):StepS (mkE D f fn c rdb mpb nxb R X) full s o ⟨v,wr,st',nx',ob⟩:=by
 intro rd mp a w hs hsz K Q hK
 have hs':SR c rd mp s a w:=hs
 unfold cstep at h
 cases hd:qsa fn o.dst with
 | false=>rw [hd] at h;cases h
 | true=>
  rw [hd] at h
  simp only at h
  have hdst:∀ d,o.dst=some d→d<a.tmps.size:=by
   intro d hd'
   rw [hd'] at hd
   simp only [qsa,xl] at hd
   have:a.tmps.size=fn.ntmps:=hsz
   rw [this]
   exact hd
  have hgood:=qjx (C:=D.cf f) hT hs' (.std hstd s.nx) o
  have body:qim D f s o call=.go v wr st' nx'→o.wp D.P a w K Q:=by
   intro hb
   unfold qim at hb
   unfold Oper.wp
   cases hr:aop D.T (D.cf f) s o.dst o.op with
   | ok ob' v'=>
    rw [hr] at hb hgood
    simp only at hb
    cases hc:chk ob' with
    | false=>rw [hc] at hb;cases hb
    | true=>
     rw [hc] at hb
     cases hb
     obtain ⟨x,w',rd',g1,g2,g3,g4⟩:=hgood (qow hc)
     rw [g1,Oper.upon_value]
     exact hK x w' rd' mp g2 (Mp.le.refl _) g3 g4 hdst
   | mem ob' v' st1 nx1=>
    rw [hr] at hb hgood
    simp only at hb
    cases hc:chk ob' with
    | false=>rw [hc] at hb;cases hb
    | true=>
     rw [hc] at hb
     cases hb
     obtain ⟨nn,x,w',rd',mp',g1,g2,g3,g4,g5,g6⟩:=hgood (qow hc)
     rw [g1]
     rcases g2 with rfl|⟨rfl,rfl⟩
     ·rw [Oper.upon_value];exact hK x w' rd' mp' g3 g4 g5 g6 hdst
     ·rw [Oper.upon_skip];exact hK undef w' rd' mp' g3 g4 g5 g6 hdst
   | call g args=>
    rw [hr] at hb hgood
    simp only at hb
    cases hc:call g args s.st s.nx with
    | bad=>rw [hc] at hb;cases hb
    | ok st1 nx1 v1=>
     rw [hc] at hb
     cases hb
     obtain ⟨vs,g1,g2⟩:=hgood
     have hinv:=hcall _ _ _ _ _ _ _ hc rd mp w vs hs'.mem g2
     rw [g1]
     rcases hinv with ⟨h1,h2⟩|⟨x,w',h1,rd',mp',h2,h3,h4,h5⟩
     ·rw [h1,Oper.upon_enter]
      refine h2.mono fun e w' he=>?_
      rcases he with ⟨x,he,rd',mp',h2,h3,h4,h5⟩|⟨_,_,hv⟩
      ·subst he;exact hK x w' rd' mp' h2 h3 h4 h5 hdst
      ·exact False.elim hv
     ·rw [h1,Oper.upon_value]
      exact hK x w' rd' mp' h2 h3 h4 h5 hdst
   | bad=>rw [hr] at hb;cases hb
  cases hg:o.guard with
  | none=>
   rw [hg] at h
   rw [zb (by simp [Region.wanted,hg])]
   exact .inl (body h)
  | some jw=>
   obtain ⟨j,want⟩:=jw
   rw [hg] at h
   simp only at h
   cases hsl:qbi full j with
   | none=>rw [hsl] at h;cases h
   | some d=>
    rw [hsl] at h
    simp only [xe] at h
    cases hgb:qcs want (s.get d) with
    | none=>rw [hgb] at h;cases h
    | some g=>
     rw [hgb] at h
     have hwant:=qrs hs' hsl hgb o hg
     rw [hwant]
     cases g with
     | true=>exact .inl (body h)
     | false=>
      cases h
      exact hK undef w rd mp (Rd.le.refl _) (Mp.le.refl _) hs'.mem (.cnd _ _ _ _ (fun h=>by cases h) (fun _=>rfl)) hdst
theorem qsk {D:CE} {f:FuncId} {fn:Func} {full:Array Oper} {s s':ASt} {o:Oper} {call:FuncId→List AV→List (Nat × SO)→Nat→CR} (h:∀ t∈reads full o,s.get t=s'.get t) (hst:s.st=s'.st) (hnx:s.nx=s'.nx) :
  cstep D f fn full s o call=cstep D f fn full s' o call:=by
 have hb:qim D f s o call=qim D f s' o call:=by
  unfold qim
  rw [qka o.dst o.op (qkb h) hst hnx,hst,hnx]
 unfold cstep
 cases hg:o.guard with
 | none=>simp only [hb]
 | some jw=>
  obtain ⟨j,want⟩:=jw
  cases hs:qbi full j with
  | none=>simp only [hs];rfl
  | some d=>
   have:s.get d=s'.get d:=h d (by simp [reads,hg,hs])
   simp only [hs,xe,this,hb,hst,hnx]
def qki (D:CE) (n:Nat) (o:Oper):FuncId→List AV→List (Nat × SO)→Nat→CR:=fun g args st nx=>match D.P.funcs[g]? with
 | some gn=>(match gn.body with
  | some body => (match !(gn.name == "runtime.NumGoroutine") && Nat.ble args.length gn.ntmps with
   | true=>cx D n g gn (.run [.code body] ⟨qch 0 args,st,nx⟩)
   | false=>.bad g 8 none)
  | none=>.bad g 7 (some o))
 | none=>.bad g 9 none
def QKn (E:Env) (m:Nat):List Itm→Exit→Act→World→Prop
 | [],e,a,w=>bodyPost E.P E.fn (Post E) e a w
 | .code x::k,e,a,w=>match e with | .normal=>(match x with | .loop b=>Code.rounds E.P b (QKn E m k) m a w|x=>x.wp E.P (QKn E m k) a w)|e=>QKn E m k e a w
 | .blk id::k,e,a,w=>match e with | .exit id'=>if id'=id then QKn E m k .normal a w else QKn E m k (.exit id') a w|e=>QKn E m k e a w
 | .mark _::k,e,a,w=>match e with | .normal=>False|e=>QKn E m k e a w
 | .ops full l::k,e,a,w=>match e with | .normal=>wpList E.P full (QKn E m k) l a w|e=>QKn E m k e a w
theorem qxu {P:Program} {c:Code} {Q Q':Exit→Act→World→Prop} (hq:∀ e a w,Q e a w→Q' e a w):∀ (n m:Nat),n≤m→∀ a w,Code.rounds P c Q n a w→Code.rounds P c Q' m a w:=by
 intro n
 induction n with
 | zero=>intro m _ a w h;exact False.elim h
 | succ n ih=>
  intro m hm a w h
  cases m with
  | zero=>omega
  | succ m=>
   refine Code.wp_mono (fun e a' w' h'=>?_) h
   cases e with
   | normal=>exact ih m (by omega) a' w' h'
   | _=>exact hq _ a' w' h'
theorem qkj {E:Env} {n m:Nat} (hnm:n≤m):∀ (k:List Itm) (e:Exit) (a:Act) (w:World),QKn E n k e a w→QKn E m k e a w
 | [],e,a,w,h=>h
 | .code x::k,e,a,w,h=>by
  have ih:=qkj (E:=E) hnm k
  cases e with
  | normal=>
   cases x with
   | loop b=>exact qxu ih n m hnm a w h
   | _=>exact Code.wp_mono ih h
  | _=>exact ih _ a w h
 | .blk id::k,e,a,w,h=>by
  have ih:=qkj (E:=E) hnm k
  cases e with
  | exit id'=>
   simp only [QKn] at h ⊢
   split at h
   ·rename_i he;rw [zb he];exact ih _ a w h
   ·rename_i he;rw [za he];exact ih _ a w h
  | _=>exact ih _ a w h
 | .mark _::k,e,a,w,h=>by
  have ih:=qkj (E:=E) hnm k
  cases e with
  | normal=>exact False.elim h
  | _=>exact ih _ a w h
 | .ops full l::k,e,a,w,h=>by
  have ih:=qkj (E:=E) hnm k
  cases e with
  | normal=>exact qma ih l a w h
  | _=>exact ih _ a w h
theorem qhj {E:Env} {n:Nat} {x:Code} {k:List Itm} {a:Act} {w:World} (h:QKn E n (.code x::k) .normal a w):x.wp E.P (QKn E n k) a w:=by
 cases x with
 | loop b=>exact wp_loop_rounds n h
 | _=>exact h
theorem jhp {E:Env} {n:Nat} {x:Code} {k:List Itm} {e:Exit} {a:Act} {w:World} (he:e≠.normal) (h:QKn E n (.code x::k) e a w):QKn E n k e a w:=by
 cases e <;> first|exact absurd rfl he|exact h
theorem jhq {E:Env} {m:Nat} (id:Nat) (a:Act) (w:World):∀ (k k':List Itm),qfn id k=some k'→QKn E m k' .normal a w→QKn E m k (.exit id) a w:=by
 intro k
 induction k with
 | nil=>intro k' h;simp [qfn] at h
 | cons i k ih=>
  intro k' h hq
  cases i with
  | blk id'=>
   simp only [qfn] at h
   simp only [QKn]
   by_cases he:id'=id
   ·subst he
    simp only [Nat.beq_refl,cond_true,Option.some.injEq] at h
    subst h
    rw [zb rfl]
    exact hq
   ·have hb:Nat.beq id' id=false:=by
     cases hb:Nat.beq id' id with
     | false=>rfl
     | true=>exact absurd (zj hb) he
    rw [hb] at h
    rw [za (Ne.symm he)]
    exact ih k' h hq
  | code x=>exact ih k' h hq
  | mark x=>exact ih k' h hq
  | ops full l=>exact ih k' h hq
def RunS (D:CE) (m:Nat) (f:FuncId) (fn:Func) (k:List Itm) (s:ASt) (st':List (Nat × SO)) (nx':Nat) (v:AV):Prop:=
 ∀ (c:Ctx) (rdb:Rd) (mpb:Mp) (nxb:Nat) (R X:List (Nat × SO)→Nat→AV→Prop),c.fre=stdF→R st' nx' v→∀ rd mp a w,SR c rd mp s a w→Base (mkE D f fn c rdb mpb nxb R X) rd mp→a.tmps.size=fn.ntmps→QKn (mkE D f fn c rdb mpb nxb R X) m k .normal a w
theorem qxv {D:CE} {n:Nat} {o:Oper} (ih:∀ f fn k s st' nx' v,cx D n f fn (.run k s)=.ok st' nx' v→RunS D n f fn k s st' nx' v) {c:Ctx} (hstd:c.fre=stdF):CallS D.P c (qki D n o):=by
 intro g args st nx st' nx' v h rd mp w vs hm hargs
 unfold qki at h
 cases hf:D.P.funcs[g]? with
 | none=>rw [hf] at h;cases h
 | some gn=>
  rw [hf] at h
  simp only at h
  cases hb:gn.body with
  | none=>rw [hb] at h;cases h
  | some body=>
   rw [hb] at h
   simp only at h
   cases hc : (!(gn.name == "runtime.NumGoroutine") && Nat.ble args.length gn.ntmps) with
   | false=>rw [hc] at h;cases h
   | true=>
    rw [hc] at h
    simp only at h
    simp only [zf,xd,zl] at hc
    have hname' : gn.name ≠ "runtime.NumGoroutine" := by simpa using hc.1
    refine .inl ⟨by simp [callFunc,hf,hname',hb,mark],?_⟩
    have hok:=ih g gn _ _ _ _ _ h c rd mp nx (fun st1 nx1 v1=>st1=st'∧nx1=nx'∧v1=v) (fun _ _ _=>False) hstd ⟨rfl,rfl,rfl⟩
    obtain ⟨hsl,hsz⟩:=qii (fn:=gn) hc.2 hargs
    have hwp:=hok rd mp ⟨vs++Array.replicate (gn.ntmps - vs.size) undef,[]⟩ w ⟨hsl,rfl,hm⟩ ⟨Rd.le.refl _,Mp.le.refl _,fun i hi=>hm.fresh i (by rw [hstd];exact hi),hstd⟩ hsz
    refine (calls_of_wp hf hb (qhj hwp)).mono fun e w' he=>?_
    match e,he with
    | .returned x,he=>
     obtain ⟨v1,rd',mp',st1,nx1,⟨rfl,rfl,rfl⟩,h2,h3,h4⟩:=he
     exact .inl ⟨x,rfl,rd',mp',h4.rd,h4.mp,h3,h2⟩
    | .panicked [⟨x,false,false⟩],he=>obtain ⟨_,_,_,_,_,h1,_⟩:=he;exact False.elim h1
structure AccF (D:CE) (c:Ctx) (f:FuncId) (fn:Func) (full:Array Oper) (l:List Oper) (L:List (Oper × Stp)) (s0 s:ASt):Prop where
 ops:L.map (·.1)++l=full.toList
 st:stateAt L 0 (fun _=>true) s0=s
 step:∀ (i:Nat) x,L[i]?=some x→∃ call,CallS D.P c call∧cstep D f fn full (stateAt L 0 (fun j=>decide (j<i)) s0) x.1 call=.go x.2.v x.2.wr x.2.st x.2.nx
theorem qmj (o:Oper) (p:Stp):∀ (L:List (Oper × Stp)) (i:Nat) (S:Nat→Bool) (s:ASt),stateAt (L++[(o,p)]) i S s=bif S (i+L.length) then after (stateAt L i S s) o p else stateAt L i S s
 | [],i,S,s=>by simp only [List.nil_append,stateAt,List.length_nil,xf]
 | (o',p')::L,i,S,s=>by
  simp only [zac,stateAt,zq]
  rw [qmj o p L (i+1) S _,show i+1+L.length=i+(L.length+1) by omega]
theorem qxw:∀ (L:List (Oper × Stp)) (i:Nat) (S S':Nat→Bool) (s:ASt),(∀ j,j<L.length→S (i+j)=S' (i+j))→stateAt L i S s=stateAt L i S' s:=by
 intro L
 induction L with
 | nil=>intro i S S' s _;rfl
 | cons y L ih=>
  intro i S S' s h
  obtain ⟨o,p⟩:=y
  simp only [stateAt]
  have h0:=h 0 (by simp)
  simp only [xf] at h0
  rw [h0]
  exact ih (i+1) S S' _ (fun j hj=>by have:=h (j+1) (by simp;omega);rwa [show i+(j+1)=i+1+j by omega] at this)
theorem AccF.snoc {D:CE} {c:Ctx} {f:FuncId} {fn:Func} {full:Array Oper} {o:Oper} {l:List Oper} {L:List (Oper × Stp)} {s0 s:ASt} (h:AccF D c f fn full (o::l) L s0 s) {call:FuncId→List AV→List (Nat × SO)→Nat→CR} (hc:CallS D.P c call) {v:AV} {wr:Bool} {st':List (Nat × SO)} {nx':Nat} {ob:Prop}
  (hs:cstep D f fn full s o call=.go v wr st' nx'):AccF D c f fn full l (L++[(o,⟨v,wr,st',nx',ob⟩)]) s0 ⟨qbj s.sl o.dst v,bif wr then st' else s.st,bif wr then nx' else s.nx⟩:=by
 have hsn:∀ i,i≤L.length→stateAt (L++[(o,(⟨v,wr,st',nx',ob⟩:Stp))]) 0 (fun j=>decide (j<i)) s0=stateAt L 0 (fun j=>decide (j<i)) s0:=by
  intro i hi
  rw [qmj]
  have:decide (0+L.length<i)=false:=by simp;omega
  rw [this];rfl
 refine ⟨by rw [← h.ops];simp,?_,fun i x hx=>?_⟩
 ·rw [qmj,h.st];rfl
 ·by_cases hi:i<L.length
  ·rw [zp hi] at hx
   obtain ⟨call',h1,h2⟩:=h.step i x hx
   exact ⟨call',h1,by rw [hsn i (by omega)];exact h2⟩
  ·rw [zm (by omega)] at hx
   have hi0:i - L.length=0:=by
    cases hk:i - L.length with
    | zero=>rfl
    | succ k=>rw [hk] at hx;simp at hx
   rw [hi0] at hx
   simp at hx
   subst hx
   have:i=L.length:=by omega
   subst this
   refine ⟨call,hc,?_⟩
   rw [hsn _ (zi _),qxw L 0 _ (fun _=>true) s0 (fun j hj=>by simp;omega),h.st]
   exact hs
theorem jhr {E:Env} {Q:Exit→Act→World→Prop} {id:Nat} {ops:Array Oper} {s:ASt} (hmix:E.P.follows .mixedOrders=true) {L:List (Oper × Stp)} (hLo:L.map (·.1)=ops.toList)
  (hst:∀ (i:Nat) x,L[i]?=some x→∀ S,Adm ops L.length S i→StepS E ops (stateAt L 0 S s) x.1 x.2) (hord:qbs ops L=true) (h:∀ rd mp a w,SR E.c rd mp (stateAt L 0 (fun _=>true) s) a w→Base E rd mp→a.tmps.size=E.fn.ntmps→Q .normal a w)
  {rd:Rd} {mp:Mp} {a:Act} {w:World} (hs:SR E.c rd mp s a w) (hrd:Base E rd mp) (hsz:a.tmps.size=E.fn.ntmps):(Code.region id ops true).wp E.P Q a w:=by
 refine wp_region_any hmix (jfr hLo hst hord h _ _ a _ (by simp) (by simp) (fun j o _ hj=>?_) hsz ⟨rd,mp,?_,hrd⟩)
 ·rw [qeg] at hj
  cases hj
 ·have hz:∀ (L:List (Oper × Stp)) (i:Nat) (s:ASt),stateAt L i (fun i=>(Array.replicate ops.size false).getD i false) s=s:=by
   intro L
   induction L with
   | nil=>intro i s;rfl
   | cons y L ih=>
    intro i s
    obtain ⟨o,p⟩:=y
    simp only [stateAt]
    rw [qeg]
    exact ih (i+1) s
  rw [hz]
  exact ⟨hs.slots,hs.defers,hs.mem.below ((Below.refl _ _).drew)⟩
theorem qsl {α:Sort u}:∀ (l:List (Oper × Stp)) (out:List Bool) (K:List Bool→α),wrsK l out K=K (l.reverse.map (·.2.wr)++out)
 | [],_,_=>rfl
 | x::r,out,K=>by
  simp only [wrsK,List.reverse_cons,List.map_append,xp,List.map_nil,xj,zac,List.nil_append]
  cases x.2.wr with
  | true=>exact qsl r _ K
  | false=>exact qsl r _ K
theorem qxx:∀ (L:List (Oper × Stp)),qmf (L.map (·.1)) (L.map (·.2.wr))=L.map fun x=>(x.1,⟨.any,x.2.wr,[],0,True⟩)
 | []=>rfl
 | x::r=>by simp only [xp,qmf,qxx r]
theorem jhs (full:Array Oper) (L:List (Oper × Stp)):qbs full (L.map fun x=>(x.1,⟨.any,x.2.wr,[],0,True⟩))=qbs full L:=by
 unfold qbs
 rw [zu]
 congr 1
 funext j
 congr 1
 congr 1
 funext i
 rw [zg,zg]
 cases L[i]? <;> cases L[j]? <;> rfl
theorem jht (full:Array Oper) (L:List (Oper × Stp)) (i m:Nat):qdy full (L.map fun x=>(x.1,⟨.any,x.2.wr,[],0,True⟩)) i m=qdy full L i m:=by
 unfold qdy
 rw [zu]
 congr 1
 funext q
 rw [zg]
 cases L[q]? <;> rfl
theorem jhu {D : CE} (hT : ∀ t, D.T t = tab D.P t) (hmix : D.P.follows .mixedOrders = true) {f : FuncId} {fn : Func} {c : Ctx} {rdb : Rd} {mpb : Mp} {nxb : Nat} {R X : List (Nat × SO) → Nat → AV → Prop} {Q : Exit → Act → World → Prop} (hstd : c.fre = stdF)
    {full:Array Oper} {L:List (Oper × Stp)} {s0 s:ASt} {id:Nat} (h:AccF D c f fn full [] L s0 s) (hok:(ordS full (L.map (·.2.wr)) || qme D f fn full L s0)=true) (hfin:∀ rd mp a w,SR c rd mp s a w→Base (mkE D f fn c rdb mpb nxb R X) rd mp→a.tmps.size=fn.ntmps→Q .normal a w) {rd:Rd} {mp:Mp} {a:Act} {w:World} (hs0:SR c rd mp s0 a w) (hrd0:Base (mkE D f fn c rdb mpb nxb R X) rd mp) (hsz0:a.tmps.size=fn.ntmps) :
    (Code.region id full true).wp D.P Q a w:=by
  have hLo:L.map (·.1)=full.toList:=by have:=h.ops;simpa using this
  have hok':qbs full L=true∧∀ i m,i<L.length→m≤L.length→qdy full L i m=true→(∀ x,L[i]?=some x→x.2.wr=false)→(∀ (q:Nat) y,L[q]?=some y→y.2.wr=true→(q<i↔q<m))∨qsb D f fn full L s0 i=true:=by
    rw [xh] at hok
    rcases hok with hok|hok
    · unfold ordS at hok
      rw [← hLo,qxx,jhs,zu,zf] at hok
      refine ⟨hok.1,fun i m hi hm hmay hwx=>.inl fun q y hy hyw=>?_⟩
      have h1:=List.all_eq_true.1 hok.2 i (List.mem_range.2 hi)
      have hwi:(L.map (·.2.wr)).getD i true=false:=by
        rw [zd,zg,ze hi]
        exact hwx _ (ze hi)
      rw [hwi,xq] at h1
      have h2:=List.all_eq_true.1 h1 m (List.mem_range.2 (by omega))
      rw [jht,hmay,xx,xq] at h2
      have hq:q<L.length:=(List.getElem?_eq_some_iff.1 hy).1
      have h3:=List.all_eq_true.1 h2 q (List.mem_range.2 (by rw [zu];exact hq))
      have hwq:(L.map (·.2.wr)).getD q false=true:=by
        rw [zd,zg,hy];exact hyw
      rw [hwq,xx,xq,xn] at h3
      constructor
      · intro h;rw [← xl] at h ⊢;rw [← h3];exact h
      · intro h;rw [← xl] at h ⊢;rw [h3];exact h
    · simp only [qme,zf] at hok
      exact ⟨hok.1,fun i m hi _ _ _=>.inr (List.all_eq_true.1 hok.2 i (List.mem_range.2 hi))⟩
  obtain ⟨hord,halt⟩:=hok'
  have hlen:L.length=full.size:=by have:=congrArg List.length hLo;simpa using this
  refine jhr (E:=mkE D f fn c rdb mpb nxb R X) hmix hLo (fun i x hx S hS=>?_) hord (by rw [h.st];exact hfin) hs0 hrd0 hsz0
  have hi:i<L.length:=(List.getElem?_eq_some_iff.1 hx).1
  have agree:∀ (j:Nat) y,L[j]?=some y→qba full y x=true→S j=decide (j<i):=by
    intro j y hy hc1
    have hj:j<full.size:=by rw [← hlen];exact (List.getElem?_eq_some_iff.1 hy).1
    have hc2:qba full x y=true:=by rw [← qrz];exact hc1
    rcases zap j i with h|h|h
    · simp only [h,decide_true];exact hS.anc j (qhi hord h hy hx hc1)
    · subst h;simp only [Nat.lt_irrefl,decide_false];exact hS.self
    · have:¬ j<i:=by omega
      simp only [this,decide_false]
      exact hS.desc j (qhi hord h hx hy hc2) hj
  have hslots:∀ t∈reads full x.1,(stateAt L 0 S s0).get t=(stateAt L 0 (fun j=>decide (j<i)) s0).get t:=by
    intro t ht
    refine qik t L 0 _ _ s0 s0 rfl (fun j y hy hd=>?_)
    rw [zn]
    refine agree j y hy ?_
    have:hits full y.1 x.1=true:=by simp [hits,hd,ht]
    simp [qba,this]
  obtain ⟨call,hcall,hstep⟩:=h.step i x hx
  cases hw:x.2.wr with
  | true=>
    have hmem:=qew L 0 S (fun j=>decide (j<i)) s0 s0 rfl rfl (fun j y hy hwy=>by
      rw [zn]
      refine agree j y hy ?_
      simp [qba,hw,hwy])
    rw [qsk (s':=stateAt L 0 S s0) (fun t ht=>(hslots t ht).symm) hmem.1.symm hmem.2.symm] at hstep
    exact qox hT hstd hcall hstep _
  | false=>
    -- how far the store has come
    have hm:∃ m,m≤L.length∧∀ (q:Nat) y,L[q]?=some y→y.2.wr=true→S q=decide (q<m):=by
      have key:∀ b,b≤L.length→∃ m,m≤b∧∀ (q:Nat) y,q<b→L[q]?=some y→y.2.wr=true→S q=decide (q<m):=by
        intro b
        induction b with
        | zero=>intro _;exact ⟨0,zi _,fun q y hq=>by omega⟩
        | succ b ihb=>
          intro hb
          obtain ⟨m,hm,hq⟩:=ihb (by omega)
          obtain ⟨z,hz⟩:∃ z,L[b]?=some z:=⟨L[b],by simp [show b<L.length by omega]⟩
          cases hzw:z.2.wr with
          | false=>
            refine ⟨m,by omega,fun q y hqb hy hyw=>?_⟩
            by_cases hqe:q=b
            · subst hqe;rw [hz] at hy;cases hy;rw [hzw] at hyw;cases hyw
            · exact hq q y (by omega) hy hyw
          | true=>
            cases hSb:S b with
            | false=>
              refine ⟨m,by omega,fun q y hqb hy hyw=>?_⟩
              by_cases hqe:q=b
              · subst hqe;rw [hSb];simp;omega
              · exact hq q y (by omega) hy hyw
            | true=>
              refine ⟨b+1,by omega,fun q y hqb hy hyw=>?_⟩
              simp only [hqb,decide_true]
              by_cases hqe:q=b
              · subst hqe;exact hSb
              · exact hS.cl b hSb q (qhi hord (by omega) hy hz (by simp [qba,hyw,hzw]))
      obtain ⟨m,hm,hq⟩:=key L.length (zi _)
      exact ⟨m,hm,fun q y hy hyw=>hq q y (List.getElem?_eq_some_iff.1 hy).1 hy hyw⟩
    obtain ⟨m,hmL,hm⟩:=hm
    have hmay:qdy full L i m=true:=by
      refine List.all_eq_true.2 (fun q hq=>?_)
      have hq':=List.mem_range.1 hq
      rw [show L[q]?=some L[q] from ze hq']
      simp only
      cases hqw:(L[q]).2.wr with
      | false=>rfl
      | true=>
        have hSq:=hm q _ (ze hq') hqw
        simp only [xx,xq]
        by_cases hqm:q<m
        · have e:Nat.blt q m=true:=by simp [xl,hqm]
          rw [e]
          simp only [cond_true,xd]
          cases hcn:(anc full L.length q).contains i with
          | false=>rfl
          | true=>
            exfalso
            have:=hS.cl q (by rw [hSq];simp [hqm]) i (by simpa using hcn)
            rw [hS.self] at this;cases this
        · have e:Nat.blt q m=false:=by cases hb:Nat.blt q m with|false=>rfl|true=>simp [xl] at hb;omega
          rw [e]
          simp only [cond_false,xd]
          cases hcn:(anc full L.length i).contains q with
          | false=>rfl
          | true=>
            exfalso
            have:=hS.anc q (by simpa using hcn)
            rw [hSq] at this;simp at this;omega
    rcases halt i m hi hmL hmay (fun x' hx'=>by rw [hx] at hx';cases hx';exact hw) with hsame|ha
    · have hmem := qew L 0 S (fun j => decide (j < i)) s0 s0 rfl rfl (fun j y hy hwy => by
        rw [zn,hm j y hy hwy]
        exact decide_eq_decide.2 (hsame j y hy hwy).symm)
      rw [qsk (s':=stateAt L 0 S s0) (fun t ht=>(hslots t ht).symm) hmem.1.symm hmem.2.symm] at hstep
      exact qox hT hstd hcall hstep _
    unfold qsb at ha
    rw [hx] at ha
    simp only [hw,xq] at ha
    have ha:=List.all_eq_true.1 ha m (List.mem_range.2 (by omega))
    rw [hmay] at ha
    simp only [xx,xq] at ha
    have blt:(fun j=>Nat.blt j i)=fun j=>decide (j<i):=by
      funext j
      cases hb:Nat.blt j i with
      | true=>simp [xl] at hb;simp [hb]
      | false => have : ¬ j < i := fun hlt => by rw [show Nat.blt j i = true by simp [xl, hlt]] at hb; cases hb
                 simp [this]
    have bltm:(fun j=>Nat.blt j m)=fun j=>decide (j<m):=by
      funext j
      cases hb:Nat.blt j m with
      | true=>simp [xl] at hb;simp [hb]
      | false => have : ¬ j < m := fun hlt => by rw [show Nat.blt j m = true by simp [xl, hlt]] at hb; cases hb
                 simp [this]
    rw [blt,bltm] at ha
    have hmem:=qew L 0 S (fun j=>decide (j<m)) s0 s0 rfl rfl (fun j y hy hwy=>by rw [zn];exact hm j y hy hwy)
    split at ha
    · rename_i v wr st1 nx1 hgo
      simp only [zf,xd] at ha
      obtain ⟨hwr,hv⟩:=ha
      have hv:=qxt _ _ _ hv
      rw [qsk (s:=⟨(stateAt L 0 (fun j=>decide (j<i)) s0).sl,(stateAt L 0 (fun j=>decide (j<m)) s0).st,(stateAt L 0 (fun j=>decide (j<m)) s0).nx⟩) (s':=stateAt L 0 S s0) (fun t ht=>(hslots t ht).symm) hmem.1.symm hmem.2.symm] at hgo
      have hst:=qox (rdb:=rdb) (mpb:=mpb) (nxb:=nxb) (R:=R) (X:=X) hT hstd (call:=fun g _ _ _=>.bad g 30 none) (fun _ _ _ _ _ _ _ h=>by cases h) hgo x.2.ob
      intro rd mp a w hs hsz K Q hK
      refine hst rd mp a w hs hsz K Q (fun y w' rd' mp' h1 h2 h3 h4 h5=>hK y w' rd' mp' h1 h2 ?_ (hv.rel h4) h5)
      rw [hw]
      rw [hwr] at h3
      exact h3
    · cases ha
theorem jhv {D:CE} (hT:∀ t,D.T t=tab D.P t) (hmix:D.P.follows .mixedOrders=true):∀ (n:Nat) (f:FuncId) (fn:Func) (st':List (Nat × SO)) (nx':Nat) (v:AV),
  (∀ k s,cx D n f fn (.run k s)=.ok st' nx' v→RunS D n f fn k s st' nx' v) ∧
  (∀ full l acc s0 k s,cx D n f fn (.draw full l acc s0 k s)=.ok st' nx' v→∀ (c:Ctx) (rdb:Rd) (mpb:Mp) (nxb:Nat) (R X:List (Nat × SO)→Nat→AV→Prop) (id:Nat),c.fre=stdF→R st' nx' v→
   AccF D c f fn full l acc.reverse s0 s→∀ rd mp a w,SR c rd mp s0 a w→Base (mkE D f fn c rdb mpb nxb R X) rd mp→a.tmps.size=fn.ntmps→(Code.region id full true).wp D.P (QKn (mkE D f fn c rdb mpb nxb R X) n k) a w):=by
 intro n
 induction n with
 | zero=>intro f fn st' nx' v;exact ⟨fun k s h=>by simp [cx] at h,fun full l acc s0 k s h=>by simp [cx] at h⟩
 | succ n ih=>
  intro f fn st' nx' v
  have ihr:∀ f fn k s st' nx' v,cx D n f fn (.run k s)=.ok st' nx' v→RunS D n f fn k s st' nx' v:=fun f fn k s st' nx' v=>(ih f fn st' nx' v).1 k s
  refine ⟨fun k s h c rdb mpb nxb R X hstd hR=>?_,fun full l acc s0 k s h c rdb mpb nxb R X id hstd hR hacc rd mp a w hs hrd hsz=>?_⟩
  ·obtain ⟨sl,st,nx⟩:=s
   have ret:∀ (w0:Nat),(match qid D.T ⟨sl,st,nx⟩ fn.results.toList with|some v=>fz v fun v=>CR.ok st nx v|none=>.bad f w0 none)=.ok st' nx' v→RetG (mkE D f fn c rdb mpb nxb R X) ⟨sl,st,nx⟩:=by
    intro w0 h
    unfold RetG
    show (match qid D.T ⟨sl,st,nx⟩ fn.results.toList with|some v=>frc v fun v=>R st nx v|none=>False)
    cases hr:qid D.T ⟨sl,st,nx⟩ fn.results.toList with
    | none=>rw [hr] at h;cases h
    | some u=>
     rw [hr] at h
     simp only [qsg] at h
     cases h
     simp only [ju]
     exact hR
   intro rd mp a w hs hrd hsz
   have up:∀ k e a w,QKn (mkE D f fn c rdb mpb nxb R X) n k e a w→QKn (mkE D f fn c rdb mpb nxb R X) (n+1) k e a w:=qkj (Nat.le_succ n)
   match k,h with
   | [],h=>
    show bodyPost D.P fn (Post _) .normal a w
    exact qif (E:=mkE D f fn c rdb mpb nxb R X) hT (ret 1 h) hs hrd
   | .blk id::k,h=>exact up _ _ _ _ (ihr f fn k _ _ _ _ h c rdb mpb nxb R X hstd hR rd mp a w hs hrd hsz)
   | .mark m::k,h=>simp [cx] at h
   | .code x::k,h=>
    have go:∀ k',cx D n f fn (.run k' ⟨sl,st,nx⟩)=.ok st' nx' v→QKn (mkE D f fn c rdb mpb nxb R X) n k' .normal a w:=fun k' h=>ihr f fn k' _ _ _ _ h c rdb mpb nxb R X hstd hR rd mp a w hs hrd hsz
    cases x with
    | skip=>exact wp_skip (up _ _ _ _ (go k h))
    | label l=>exact wp_label (up _ _ _ _ (go k h))
    | seq x y=>
     refine wp_seq (Code.wp_mono (fun e a' w' h'=>?_) (qhj (go _ h)))
     cases e with
     | normal=>exact Code.wp_mono (up k) (qhj h')
     | _=>exact up k _ a' w' (jhp (by simp) h')
    | block id x=>
     refine wp_block (Code.wp_mono (fun e a' w' h'=>?_) (qhj (go _ h)))
     cases e with
     | exit id'=>
      simp only [QKn] at h'
      simp only [Exit.inBlock]
      split at h'
      ·rename_i he;rw [zb he];exact up k _ a' w' h'
      ·rename_i he;rw [za he];exact up k _ a' w' h'
     | _=>exact up k _ a' w' h'
    | cond o x y=>
     have ho:=qbd hs o
     simp only [cx] at h
     split at h
     ·rename_i hp
      rw [hp] at ho
      exact wp_cond_true (rel_bool ho) (Code.wp_mono (up k) (qhj (go _ h)))
     ·rename_i hp
      rw [hp] at ho
      exact wp_cond_false (rel_bool ho) (Code.wp_mono (up k) (qhj (go _ h)))
     ·cases h
    | loop b=>
     have h2:cx D n f fn (.run (.code b::.code (.loop b)::k) ⟨dd sl [],st,nx⟩)=.ok st' nx' v:=by
      have h2:ddK sl [] (fun sl=>cx D n f fn (.run (.code b::.code (.loop b)::k) ⟨sl,st,nx⟩))=.ok st' nx' v:=h
      rwa [qsi] at h2
     have:=qhj (ihr f fn (.code b::.code (.loop b)::k) _ _ _ _ h2 c rdb mpb nxb R X hstd hR rd mp a w hs.dd hrd hsz)
     refine Code.wp_mono (fun e a' w' h'=>?_) this
     cases e with
     | normal=>exact qxu (up k) n n (zi _) a' w' h'
     | _=>exact up k _ a' w' h'
    | exit id=>
     simp only [cx] at h
     split at h
     ·rename_i k' hk'
      exact wp_exit (jhq id a w k k' hk' (up _ _ _ _ (go k' h)))
     ·cases h
    | ret=>
     apply wp_ret
     have hret:=qif (E:=mkE D f fn c rdb mpb nxb R X) hT (ret 5 h) hs hrd
     have:∀ k:List Itm,QKn (mkE D f fn c rdb mpb nxb R X) (n+1) k .ret a w:=by
      intro k
      induction k with
      | nil=>exact hret
      | cons i k ih'=>cases i <;> exact ih'
     exact this k
    | region id ops d=>
     cases d with
     | true=>
      have h':cx D n f fn (.draw ops ops.toList [] ⟨sl,st,nx⟩ k ⟨sl,st,nx⟩)=.ok st' nx' v:=h
      exact Code.wp_mono (up k) ((ih f fn st' nx' v).2 ops ops.toList [] ⟨sl,st,nx⟩ k ⟨sl,st,nx⟩ h' c rdb mpb nxb R X id hstd hR ⟨by simp,rfl,fun i x hx=>by simp at hx⟩ rd mp a w hs hrd hsz)
     | false=>
      have:=go _ h
      exact wp_region_list (qma (up k) _ _ _ this)
    | _=>simp [cx] at h
   | .ops full []::k,h=>
    exact up _ _ _ _ (ihr f fn k _ _ _ _ h c rdb mpb nxb R X hstd hR rd mp a w hs hrd hsz)
   | .ops full (o::rest)::k,h=>
    have h':(match cstep D f fn full ⟨sl,st,nx⟩ o (qki D n o) with
     | .go v wr st' nx'=>fz v fun v=>putK sl o.dst v fun sl'=>(match wr with|true=>fzN nx' fun nx'=>nz (fun i=>inS (tgt ⟨sl,st,nx⟩ o.op) i || Nat.ble nx i) st' fun st'=>cx D n f fn (.run (.ops full rest::k) ⟨sl',st',nx'⟩)|false=>cx D n f fn (.run (.ops full rest::k) ⟨sl',st,nx⟩))
     | .bad g w o=>.bad g w o)=.ok st' nx' v:=h
    cases hst:cstep D f fn full ⟨sl,st,nx⟩ o (qki D n o) with
    | bad=>rw [hst] at h';cases h'
    | go v1 wr st1 nx1=>
     rw [hst] at h'
     simp only [qsg,jho] at h'
     have hS:=qox (rdb:=rdb) (mpb:=mpb) (nxb:=nxb) (R:=R) (X:=X) hT hstd (qxv ihr hstd) hst True
     show wpList D.P full (QKn _ (n+1) k) (o::rest) a w
     unfold wpList
     refine hS rd mp a w hs hsz _ _ (fun x w' rd' mp' h1 h2 h3 h4 h5=>?_)
     have hsr:=hs.put (dst:=o.dst) h1 h2 h3 h4 h5
     rw [← qhf] at hsr
     cases wr with
     | false=>
      simp only at h'
      have:=ihr f fn _ _ _ _ _ h' c rdb mpb nxb R X hstd hR rd' mp' (a.put o.dst x) w' hsr (hrd.step h1 h2) (by rw [qdd];exact hsz)
      exact qma (up k) _ _ _ this
     | true=>
      simp only [qkh,qsh] at h'
      have:=ihr f fn _ _ _ _ _ h' c rdb mpb nxb R X hstd hR rd' mp' (a.put o.dst x) w' (hsr.nrm _) (hrd.step h1 h2) (by rw [qdd];exact hsz)
      exact qma (up k) _ _ _ this
  ·obtain ⟨sl,st,nx⟩:=s
   have up:∀ k e a w,QKn (mkE D f fn c rdb mpb nxb R X) n k e a w→QKn (mkE D f fn c rdb mpb nxb R X) (n+1) k e a w:=qkj (Nat.le_succ n)
   cases l with
   | nil=>
    have h0:(wrsK acc [] fun wrs=>match ordS full wrs || qme D f fn full acc.reverse s0 with|true=>nz (fun _=>wrs.any fun b=>b) st fun st=>cx D n f fn (.run k ⟨sl,st,nx⟩)|false=>.bad f 40 full[0]?)=.ok st' nx' v:=h
    rw [qsl,zaq] at h0
    have h':=h0
    cases hok:(ordS full (acc.reverse.map (·.2.wr)) || qme D f fn full acc.reverse s0) with
    | false=>rw [hok] at h';cases h'
    | true=>
     rw [hok] at h'
     simp only [qsh] at h'
     exact Code.wp_mono (up k) (jhu hT hmix hstd hacc hok (fun rd mp a w hs=>ihr f fn k _ _ _ _ h' c rdb mpb nxb R X hstd hR rd mp a w (hs.nrm _)) hs hrd hsz)
   | cons o rest=>
    have h':(match cstep D f fn full ⟨sl,st,nx⟩ o (qki D n o) with
     | .go v wr st' nx'=>fz v fun v=>fzN nx' fun nx'=>cx D n f fn (.draw full rest ((o,⟨v,wr,st',nx',True⟩)::acc) s0 k ⟨qbj sl o.dst v,bif wr then st' else st,bif wr then nx' else nx⟩)
     | .bad g w o=>.bad g w o)=.ok st' nx' v:=h
    cases hst:cstep D f fn full ⟨sl,st,nx⟩ o (qki D n o) with
    | bad=>rw [hst] at h';cases h'
    | go v1 wr st1 nx1=>
     rw [hst] at h'
     simp only [qsg,qkh] at h'
     refine Code.wp_mono (up k) ((ih f fn st' nx' v).2 full rest _ s0 k _ h' c rdb mpb nxb R X id hstd hR ?_ rd mp a w hs hrd hsz)
     rw [List.reverse_cons]
     exact hacc.snoc (qxv ihr hstd) hst
end Go.Sx
end
section
namespace Go.Sx
open Go Go.RowKit
def qgn (st:List (Nat × SO)):Nat→AV→Bool
 | n+1,.own r i e m=>match jx st r i with
  | some (ob,R)=>chk ob && (Nat.beq e R.ep && Nat.beq m R.n) && (match R.ids with|[]=>true|_=>(List.range m).all fun k=>(R.f k).all (qgn st n))
  | none=>match look st r with
   | some (.ro _ ep n' _)=>Nat.beq i 0 && (Nat.beq e ep && Nat.beq m n')
   | _=>true
 | n+1,.ptr b o=>match look st b with
  | some (.box _ cs)=>((cs.drop o).all AV.oneOwn && chk (qap st (cs.drop o))) && (cs.drop o).all (qgn st n)
  | _=>true
 | n+1,.fn _ cs=>cs.all (qgn st n)
 | _,_=>true
theorem qkk {α:Type} {p:α→Prop} {b:α→Bool} (h:∀ x,b x=true→p x):∀ {l:List α},l.all b=true→allP p l
 | [],_=>trivial
 | x::l,hl=>by
  simp only [List.all_cons,zf] at hl
  exact ⟨h x hl.1,qkk h hl.2⟩
theorem qsm {st:List (Nat × SO)}:∀ (n:Nat) (x:AV),qgn st n x=true→qcm st n x:=by
 intro n
 induction n with
 | zero=>intro x _;cases x <;> trivial
 | succ n ih=>
  intro x h
  cases x with
  | own r i e m=>
   simp only [qgn] at h
   simp only [qcm]
   cases hr:jx st r i with
   | some q=>
    obtain ⟨ob,R⟩:=q
    rw [hr] at h
    simp only [zf,xk] at h
    refine ⟨qow h.1.1,h.1.2,?_⟩
    cases hids:R.ids with
    | nil=>trivial
    | cons q qs=>
     have h2:=h.2
     rw [hids] at h2
     exact fun k hk=>qkk ih (List.all_eq_true.1 h2 k (List.mem_range.2 hk))
   | none=>
    rw [hr] at h
    simp only at h ⊢
    cases hl:look st r with
    | none=>trivial
    | some q=>
     rw [hl] at h
     cases q with
     | ro sz ep n' f=>
      simp only [zf,xk] at h
      exact ⟨h.1,h.2.1,h.2.2⟩
     | _=>trivial
  | ptr b o=>
   simp only [qgn] at h
   simp only [qcm]
   cases hl:look st b with
   | none=>trivial
   | some q=>
    rw [hl] at h
    cases q with
    | box ty cs=>
     simp only [zf] at h
     exact ⟨⟨h.1.1,qow h.1.2⟩,qkk ih h.2⟩
    | _=>trivial
  | fn f cs=>exact qkk ih h
  | _=>trivial
def qoy (st:List (Nat × SO)):AV→Bool
 | .agg cs=>cs.all (qgn st 4)
 | .cnd b x=>!b || qgn st 4 x
 | x=>qgn st 4 x
theorem qoz {st:List (Nat × SO)} (x:AV) (h:qoy st x=true):qic st x:=by
 cases x with
 | agg cs=>exact qkk (qsm 4) h
 | cnd b x=>
  intro hb
  simp only [qoy,hb,xx,xq] at h
  exact qsm 4 x h
 | _=>exact qsm 4 _ h
def qsn (st:List (Nat × SO)):AV→Bool
 | .tup vs=>vs.all (qoy st)
 | x=>qoy st x
theorem jhw {st:List (Nat × SO)} (x:AV) (h:qsn st x=true):qqz st x:=by
 cases x with
 | tup vs=>exact qkk qoz h
 | agg cs=>exact qoz (.agg cs) h
 | cnd b x=>exact qoz (.cnd b x) h
 | _=>simp only [qsn] at h;exact qoz _ h
def qxy (D:CE) (n:Nat) (g:FuncId) (args:List AV) (res:AV):Bool:=
 match crun D n g args with
 | .ok st _ v=>qsn st v && leB 8 (frzV st v) res
 | .bad ..=>false
theorem jhx {D:CE} (hT:∀ t,D.T t=tab D.P t) (hmix:D.P.follows .mixedOrders=true) {n:Nat} {g:FuncId} {args:List AV} {res:AV} (h:qxy D n g args res=true):Con D.P g args res:=by
 unfold qxy crun at h
 cases hf:D.P.funcs[g]? with
 | none=>rw [hf] at h;cases h
 | some gn=>
  rw [hf] at h
  simp only at h
  cases hb:gn.body with
  | none=>rw [hb] at h;cases h
  | some body=>
   rw [hb] at h
   simp only at h
   cases hc : (!(gn.name == "runtime.NumGoroutine") && Nat.ble args.length gn.ntmps) with
   | false=>rw [hc] at h;cases h
   | true=>
    rw [hc] at h
    simp only at h
    simp only [zf,xd,zl] at hc
    cases hr:cx D n g gn (.run [.code body] ⟨qch 0 args,[],0⟩) with
    | bad=>rw [hr] at h;cases h
    | ok st nx x=>
     rw [hr] at h
     simp only [zf] at h
     intro rd w vs hm hargs
     have hname' : gn.name ≠ "runtime.NumGoroutine" := by simpa using hc.1
     refine .inl ⟨by simp [callFunc,hf,hname',hb,mark],?_⟩
     let c:Ctx:=⟨w,rd,fun _=>False,stdF⟩
     have hok:=(jhv hT hmix n g gn st nx x).1 _ _ hr c rd Mp.none 0 (fun st1 nx1 v1=>st1=st∧nx1=nx∧v1=x) (fun _ _ _=>False) rfl ⟨rfl,rfl,rfl⟩
     obtain ⟨hsl,hsz⟩:=qii (fn:=gn) hc.2 hargs
     have hsr:SR c rd Mp.none ⟨qch 0 args,[],0⟩ ⟨vs++Array.replicate (gn.ntmps - vs.size) undef,[]⟩ w:=
      ⟨hsl,rfl,⟨hm.1,hm.2.1,fun g o v h=>.inl h,⟨rfl,rfl,rfl,zi _,fun _ _ _=>rfl⟩,fun b ty cs hx=>by simp [look] at hx,fun r i R hR=>by cases hR <;> simp_all [look],
       fun p q g hp=>by cases p <;> (obtain ⟨_,hx⟩:=hp;first|(obtain ⟨_,hx⟩:=hx;simp [look] at hx;done)|(cases hx <;> simp_all [look])),fun _ _=>⟨rfl,fun _=>rfl⟩,fun i x hx=>by simp [look] at hx,fun r e sz cnt ep len f hx=>by simp [look] at hx,fun r sz ep n f hx=>by simp [look] at hx,⟨hm.2.2,fun _ _ h=>h⟩,Rd.le.refl _⟩⟩
     have hwp:=hok rd Mp.none _ w hsr ⟨Rd.le.refl _,Mp.le.refl _,fun _ _=>⟨rfl,fun _=>rfl⟩,rfl⟩ hsz
     refine (calls_of_wp hf hb (qhj hwp)).mono fun e w' he=>?_
     match e,he with
     | .returned v,he=>
      obtain ⟨x1,rd',mp',st1,nx1,⟨rfl,rfl,rfl⟩,h2,h3,h4⟩:=he
      refine .inl ⟨v,rfl,frzRd rd' mp' st1 w',(qxt _ _ _ h.2).rel (qru h3 x1 v (jhw _ h.1) h2),h4.rd.trans qct,qly h3,fun g o v hv=>?_,⟨h3.fr.os,h3.fr.tape,h3.fr.output,h3.fr.size,fun k hk=>h3.fr.block k hk (fun h=>h)⟩⟩
      rcases qih hv with hv|⟨_,_,p,hp,hg⟩
      ·rcases h3.rdn g o v hv with h|h|h
       ·exact .inl h
       ·exact .inr h
       ·exact False.elim h
      ·rcases (h3.home hp hg).2.2 with h|h
       ·exact .inr h
       ·exact False.elim h
     | .panicked [⟨v,false,false⟩],he=>obtain ⟨_,_,_,_,_,h1,_⟩:=he;exact False.elim h1

section
variable {c:Ctx} {rd rd':Rd} {mp mp':Mp} {st st':List (Nat × SO)} {nx nx':Nat} {w w':World}
def Ctx.free (c:Ctx) (F:Nat→Nat→Prop):Ctx:=⟨c.w0,c.rd0,c.fx,F⟩
theorem Fr.free {F:Nat→Nat→Prop} (h:Fr c w):Fr (c.free F) w:=⟨h.os,h.tape,h.output,h.size,h.block⟩
theorem Mem.refre {F:Nat→Nat→Prop} (h:Mem c rd mp st nx w) (hf:∀ i,F nx' i→c.fre nx i):Mem (c.free F) rd mp st nx' w:=
 ⟨h.rdw,h.rd1,h.rdn,h.fr.free,h.bx,h.mb,h.inj,fun i hi=>h.fresh i (hf i hi),fun i x hx hi=>h.ids i x hx (hf i hi),h.out,h.ro,h.tab⟩
theorem Ctx.free_free (c:Ctx) (F G:Nat→Nat→Prop):(c.free F).free G=c.free G:=rfl
theorem Ctx.free_self (c:Ctx):c.free c.fre=c:=rfl
def inv2 (a n1 y:Nat):Option Nat:=if a≤y∧y<a+n1 then some (y - a) else none
theorem qxz {a n1 y j:Nat} (h:inv2 a n1 y=some j):j<n1∧y=a+j:=by
 unfold inv2 at h
 split at h
 ·cases h;omega
 ·cases h
theorem qso {a n1 j:Nat} (h:j<n1):inv2 a n1 (a+j)=some j:=by
 unfold inv2
 rw [zb (by omega)]
 congr 1;omega
theorem qmk (a j:Nat):names [] a j=a+j:=by simp [names]
def Mp.plus (mp mp':Mp) (a n1:Nat):Mp:=
 ⟨fun y=>match inv2 a n1 y with|some j=>mp'.blk j | .none=>mp.blk y,fun y i=>match inv2 a n1 y with|some j=>mp'.row j i | .none=>mp.row y i⟩
theorem qya {a n1:Nat} (hf:∀ i,n1≤i→mp'.blk i=none∧∀ j,mp'.row i j=none):Mp.le mp' ((mp.plus mp' a n1).pull (names [] a)):=by
 have hj:∀ j,j<n1∨n1≤j:=fun j=>by omega
 refine ⟨fun j g hg=>?_,fun j i v e n hg=>⟨v,e,n,?_,.inr ⟨rfl,.inr ⟨rfl,rfl⟩⟩⟩⟩
 ·rcases hj j with h|h
  ·simp only [Mp.pull,Mp.plus,qmk,qso h];exact hg
  ·rw [(hf j h).1] at hg;cases hg
 ·rcases hj j with h|h
  ·simp only [Mp.pull,Mp.plus,qmk,qso h];exact hg
  ·rw [(hf j h).2] at hg;cases hg
theorem qkl {a n1:Nat} {st1:List (Nat × SO)} (hlt1:∀ j o,look st1 j=some o→j<n1) (hst:∀ y x,look st y=some x→¬ (a≤y∧y<a+n1)) (y:Nat) :
  look (jc (names [] a) st1++st) y=match inv2 a n1 y with|some j=>(look st1 j).map (SO.ren (names [] a))|none=>look st y:=by
 rw [qdj,qxj (is:=[]) (by simp) (by simp)]
 have hinv:inv [] a y=if a≤y then some (y - a) else none:=by simp [inv]
 rw [hinv]
 unfold inv2
 by_cases h1:a≤y
 ·rw [zb h1]
  simp only
  by_cases h2:y<a+n1
  ·rw [zb ⟨h1,h2⟩]
   simp only
   cases hl:look st1 (y - a) with
   | some o=>rfl
   | none=>
    simp only [Option.map_none]
    cases hs:look st y with
    | none=>rfl
    | some x=>exact absurd ⟨h1,h2⟩ (hst y x hs)
  ·rw [za (fun h=>h2 h.2)]
   have:look st1 (y - a)=none:=by
    cases hl:look st1 (y - a) with
    | none=>rfl
    | some o=>have:=hlt1 _ _ hl;omega
   rw [this];rfl
 ·rw [za h1,za (fun h=>h1 h.1)]
theorem qyb {a n1:Nat} {st1:List (Nat × SO)} (hlt1:∀ j o,look st1 j=some o→j<n1) (hst:∀ y x,look st y=some x→¬ (a≤y∧y<a+n1)) {y i:Nat} {R:RowV} (hR:IsMem (jc (names [] a) st1++st) y i R) :
  (∃ j R0,inv2 a n1 y=some j∧IsMem st1 j i R0∧R=R0.ren (names [] a))∨(inv2 a n1 y=none∧IsMem st y i R):=by
 have hb:=qkl (st:=st) hlt1 hst y
 cases hi:inv2 a n1 y with
 | none=>
  rw [hi] at hb
  simp only at hb
  refine .inr ⟨rfl,?_⟩
  cases hR with
  | row hl=>rw [hb] at hl;exact .row hl
  | fam hl h=>rw [hb] at hl;exact .fam hl h
 | some j=>
  rw [hi] at hb
  simp only at hb
  refine .inl ⟨j,?_⟩
  cases hR with
  | row hl=>
   rw [hb] at hl
   obtain ⟨o,ho,he⟩:=Option.map_eq_some_iff.1 hl
   cases o with
   | box=>simp [SO.ren] at he
   | fam=>simp [SO.ren] at he
   | ro=>simp [SO.ren] at he
   | row ids e sz ep n f=>
    simp only [SO.ren,SO.row.injEq] at he
    obtain ⟨rfl,rfl,rfl,rfl,rfl,rfl⟩:=he
    exact ⟨⟨ids,_,_,_,_,f⟩,rfl,.row ho,rfl⟩
  | fam hl h=>
   rw [hb] at hl
   obtain ⟨o,ho,he⟩:=Option.map_eq_some_iff.1 hl
   cases o with
   | box=>simp [SO.ren] at he
   | row=>simp [SO.ren] at he
   | ro=>simp [SO.ren] at he
   | fam e sz cnt ep len f=>
    simp only [SO.ren,SO.fam.injEq] at he
    obtain ⟨rfl,rfl,rfl,rfl,rfl,rfl⟩:=he
    exact ⟨⟨[],_,_,_,_,_⟩,rfl,.fam ho h,rfl⟩
theorem Mem.gain {st1:List (Nat × SO)} {a n1:Nat} {F:Nat→Nat→Prop} (hm:Mem c rd mp st nx w) (hr:Rd.le rd rd') (hm':Mem ⟨w,rd,fun _=>False,stdF⟩ rd' mp' st1 n1 w') (hlt1:stLt n1 st1=true) (hrows:rowsLt n1 st1)
  (hfree:∀ y,a≤y→y<a+n1→c.fre nx y) (hF:∀ y,F nx' y→c.fre nx y∧¬ (a≤y∧y<a+n1)) :
  Mp.le mp (mp.plus mp' a n1)∧Mem (c.free F) rd' (mp.plus mp' a n1) (jc (names [] a) st1++st) nx' w':=by
 have hst:∀ y x,look st y=some x→¬ (a≤y∧y<a+n1):=fun y x hx h=>hm.ids y x hx (hfree y h.1 h.2)
 have hid1:∀ j o,look st1 j=some o→j<n1∧o.lt n1=true:=by
  intro j o hx
  have:=(List.all_eq_true.1 hlt1) _ (qdv hx)
  simp only [zf,zl] at this
  exact ⟨by omega,this.2⟩
 have hj1:∀ j o,look st1 j=some o→j<n1:=fun j o h=>(hid1 j o h).1
 have hfr':∀ i,n1≤i→mp'.blk i=none∧∀ j,mp'.row i j=none:=fun i hi=>hm'.fresh i hi
 have hpull:Mp.le mp' ((mp.plus mp' a n1).pull (names [] a)):=qya hfr'
 have hle:Mp.le mp (mp.plus mp' a n1):=by
  have hno:∀ y,(∃ g,mp.blk y=some g)∨(∃ i x,mp.row y i=some x)→inv2 a n1 y=none:=by
   intro y hy
   unfold inv2
   rw [za]
   rintro ⟨h1,h2⟩
   have:=hm.fresh y (hfree y h1 h2)
   rcases hy with ⟨g,hg⟩|⟨i,x,hx⟩
   ·rw [this.1] at hg;cases hg
   ·rw [this.2] at hx;cases hx
  refine ⟨fun y g hg=>?_,fun y i v e n hg=>⟨v,e,n,?_,.inr ⟨rfl,.inr ⟨rfl,rfl⟩⟩⟩⟩
  ·simp only [Mp.plus,hno y (.inl ⟨g,hg⟩)];exact hg
  ·simp only [Mp.plus,hno y (.inr ⟨i,_,hg⟩)];exact hg
 have hkeep:∀ p g,There st p→blkOf mp p=some g→w'.heap[g]?=w.heap[g]?∧∀ o,rd' g o=none:=by
  intro p g hp hg
  obtain ⟨h1,h2,_⟩:=hm.home hp hg
  refine ⟨hm'.fr.block g h1 (fun h=>h),fun o=>?_⟩
  cases hv:rd' g o with
  | none=>rfl
  | some v=>
   rcases hm'.rdn g o v hv with h|h|h
   ·have h':rd g o=some v:=h
    rw [h2 o] at h';cases h'
   ·have h':w.heap.size≤g:=h
    omega
   ·exact False.elim h
 have hnew:∀ p g,There st1 p→blkOf mp' p=some g→w.heap.size≤g:=by
  intro p g hp hg
  rcases (hm'.home hp hg).2.2 with h|h
  ·exact h
  ·exact False.elim h
 have hin:∀ j,j<n1→∀ i,(mp.plus mp' a n1).blk (a+j)=mp'.blk j∧(mp.plus mp' a n1).row (a+j) i=mp'.row j i:=by
  intro j hj i
  simp only [Mp.plus,qso hj,and_self]
 -- a place of the new store
 have hcase:∀ p g,There (jc (names [] a) st1++st) p→blkOf (mp.plus mp' a n1) p=some g→(∃ q,There st1 q∧p=q.ren (names [] a)∧blkOf mp' q=some g)∨(There st p∧blkOf mp p=some g):=by
  intro p g hp hg
  cases p with
  | bx b=>
   obtain ⟨ty,cs,hl⟩:=hp
   rw [qkl hj1 hst] at hl
   cases hi:inv2 a n1 b with
   | none=>
    rw [hi] at hl
    simp only [blkOf,Mp.plus,hi] at hg
    exact .inr ⟨⟨ty,cs,hl⟩,hg⟩
   | some j=>
    rw [hi] at hl
    obtain ⟨o,ho,he⟩:=Option.map_eq_some_iff.1 hl
    obtain ⟨cs0,rfl,_⟩:=SO.ren_box he
    simp only [blkOf,Mp.plus,hi] at hg
    exact .inl ⟨.bx j,⟨ty,cs0,ho⟩,by rw [(qxz hi).2];simp [Pl.ren,qmk],hg⟩
  | rw r i=>
   obtain ⟨R,hR⟩:=hp
   rcases qyb hj1 hst hR with ⟨j,R0,hi,h1,_⟩|⟨hi,h1⟩
   ·simp only [blkOf,Mp.plus,hi] at hg
    exact .inl ⟨.rw j i,⟨R0,h1⟩,by rw [(qxz hi).2];simp [Pl.ren,qmk],hg⟩
   ·simp only [blkOf,Mp.plus,hi] at hg
    exact .inr ⟨⟨R,h1⟩,hg⟩
 refine ⟨hle,hm'.rdw,hm'.rd1,fun g o v hv=>?_,⟨hm'.fr.os.trans hm.fr.os,hm'.fr.tape.trans hm.fr.tape,hm'.fr.output.trans hm.fr.output,xb hm.fr.size hm'.fr.size,fun k hk hf=>?_⟩,fun b ty cs hl=>?_,fun r i R hR=>?_,fun p q g hp' hq' hgp hgq=>?_,fun y hy=>?_,fun y x hx hy=>?_,fun r e sz cnt ep len f hl i hi=>?_,fun r sz ep n f hl=>?_,hm.tab.1,hm.tab.2.trans hm'.tab.2⟩
 ·rcases hm'.rdn g o v hv with h|h|h
  ·exact hm.rdn g o v h
  ·exact .inr (.inl (xb hm.fr.size h))
  ·exact False.elim h
 ·exact (hm'.fr.block k (zae hk hm.fr.size) (fun h=>h)).trans (hm.fr.block k hk hf)
 ·rw [qkl hj1 hst] at hl
  cases hi:inv2 a n1 b with
  | none=>
   rw [hi] at hl
   exact (hm.bx b ty cs hl).keep hr hle (fun g hg=>hkeep (.bx b) g ⟨ty,cs,hl⟩ hg)
  | some j=>
   rw [hi] at hl
   obtain ⟨o,ho,he⟩:=Option.map_eq_some_iff.1 hl
   obtain ⟨cs0,rfl,rfl⟩:=SO.ren_box he
   obtain ⟨g,vs,h1,h2,h3,h4,h5,h6⟩:=hm'.bx j ty cs0 ho
   refine ⟨g,vs,by simp [Mp.plus,hi,h1],h2,by simpa using h3,?_,h5,.inl (xb hm.fr.size (hnew (.bx j) g ⟨ty,cs0,ho⟩ h1))⟩
   exact (qio (ι:=names [] a) (n:=n1) (hid1 _ _ ho).2).1 (fun j x v hx hv=>(h4 j x v hx hv).mono (Rd.le.refl _) hpull)
 ·rcases qyb hj1 hst hR with ⟨j,R0,hi,h1,rfl⟩|⟨hi,h1⟩
  ·obtain ⟨v,xs,g1,g2,g3,g4,g5⟩:=hm'.mb j i R0 h1
   refine ⟨v,xs,by simp only [Mp.plus,hi];exact g1,g2,fun k hk=>by rw [RowV.ren_len];exact g3 k hk,?_,fun g hg=>⟨(g5 g hg).1,.inl (xb hm.fr.size (hnew (.rw j i) g ⟨R0,h1⟩ (by simp [blkOf,g1,hg])))⟩⟩
   have hids:∀ q∈R0.ids,q<n1:=by
    intro q hq
    cases h1 with
    | row hl=>
     have:=List.all_eq_true.1 (hid1 _ _ hl).2 q hq
     simp only [zl] at this;omega
    | fam hl _=>simp at hq
   refine (qou (ι:=names [] a) (n:=n1) (fun hne=>qot hrows h1 hne) (fun i j _ _ h=>by simp only [qmk] at h;omega) hids).1 ?_
   intro k j x hk hx
   obtain ⟨u,hu,h1',h2'⟩:=g4 k j x hk hx
   exact ⟨u,hu,h1',h2'.mono (Rd.le.refl _) (Mp.sel_mono hpull _)⟩
  ·exact (hm.mb r i R h1).keep hr hle (by simp [Mp.plus,hi]) (fun g hg=>hkeep (.rw r i) g ⟨R,h1⟩ hg)
 ·rcases hcase p g hp' hgp with ⟨p0,h0,rfl,h0'⟩|⟨h0,h0'⟩
  ·rcases hcase q g hq' hgq with ⟨q0,k0,rfl,k0'⟩|⟨k0,k0'⟩
   ·rw [hm'.inj p0 q0 g h0 k0 h0' k0']
   ·have:=(hm.home k0 k0').1
    have:=hnew p0 g h0 h0'
    omega
  ·rcases hcase q g hq' hgq with ⟨q0,k0,rfl,k0'⟩|⟨k0,k0'⟩
   ·have:=(hm.home h0 h0').1
    have:=hnew q0 g k0 k0'
    omega
   ·exact hm.inj p q g h0 k0 h0' k0'
 ·obtain ⟨h1,h2⟩:=hF y hy
  have hi:inv2 a n1 y=none:=by unfold inv2;rw [za h2]
  simp only [Mp.plus,hi]
  exact hm.fresh y h1
 ·obtain ⟨h1,h2⟩:=hF y hy
  have hi:inv2 a n1 y=none:=by unfold inv2;rw [za h2]
  rw [qkl hj1 hst,hi] at hx
  exact hm.ids y x hx h1
 ·rw [qkl hj1 hst] at hl
  cases hin:inv2 a n1 r with
  | none=>
   rw [hin] at hl
   simp only [Mp.plus,hin]
   exact hm.out _ _ _ _ _ _ _ hl i hi
  | some j=>
   rw [hin] at hl
   obtain ⟨o,ho,he⟩:=Option.map_eq_some_iff.1 hl
   cases o with
   | box=>simp [SO.ren] at he
   | row=>simp [SO.ren] at he
   | ro=>simp [SO.ren] at he
   | fam e0 sz0 cnt0 ep0 len0 f0=>
    simp only [SO.ren,SO.fam.injEq] at he
    obtain ⟨rfl,rfl,rfl,rfl,rfl,rfl⟩:=he
    simp only [Mp.plus,hin]
    exact hm'.out _ _ _ _ _ _ _ ho i hi
 ·rw [qkl hj1 hst] at hl
  cases hin:inv2 a n1 r with
  | none=>
   rw [hin] at hl
   obtain ⟨v,h1,h2⟩:=hm.ro _ _ _ _ _ hl
   exact ⟨v,by simp only [Mp.plus,hin];exact h1,h2.mono hr (Mp.le.refl _)⟩
  | some j=>
   rw [hin] at hl
   obtain ⟨o,ho,he⟩:=Option.map_eq_some_iff.1 hl
   cases o with
   | box=>simp [SO.ren] at he
   | row=>simp [SO.ren] at he
   | fam=>simp [SO.ren] at he
   | ro sz0 ep0 n0 f0=>
    simp only [SO.ren,SO.ro.injEq] at he
    obtain ⟨rfl,rfl,rfl,rfl⟩:=he
    obtain ⟨v,h1,h2⟩:=hm'.ro _ _ _ _ _ ho
    exact ⟨v,by simp only [Mp.plus,hin];exact h1,h2⟩
end
structure Pst where
 v:AV
 ft:List Nat
 ps:List (Nat × SO)
 a:Nat
 b:Nat
 ob:Prop
def slAt:List (Oper × Pst)→Nat→(Nat→Bool)→List (Nat × AV)→List (Nat × AV)
 | [],_,_,sl=>sl
 | (o,p)::r,i,S,sl=>slAt r (i+1) S (bif S i then qbj sl o.dst p.v else sl)
def stAt:List (Oper × Pst)→Nat→(Nat→Bool)→List (Nat × SO)→List (Nat × SO)
 | [],_,_,st=>st
 | (_,p)::r,i,S,st=>stAt r (i+1) S (bif S i then p.ps++st else st)
def getS (sl:List (Nat × AV)) (t:Nat):AV:=(look sl t).getD .any
theorem qsp (sl:List (Nat × AV)) (d:Option Nat) (v:AV) (t:Nat):getS (qbj sl d v) t=if d=some t then v else getS sl t:=by
 cases d with
 | none=>simp [qbj]
 | some d=>
  simp only [qbj,getS,qq,Option.some.injEq]
  split <;> rfl
theorem qml (t:Nat):∀ (L:List (Oper × Pst)) (i:Nat) (S S':Nat→Bool) (s s':List (Nat × AV)),getS s t=getS s' t→
  (∀ (j:Nat) x,L[j]?=some x→x.1.dst=some t→S (i+j)=S' (i+j))→getS (slAt L i S s) t=getS (slAt L i S' s') t:=by
 intro L
 induction L with
 | nil=>intro i S S' s s' h _;exact h
 | cons x r ih=>
  intro i S S' s s' h hw
  obtain ⟨o,p⟩:=x
  simp only [slAt]
  refine ih (i+1) S S' _ _ ?_ (fun j x hx hd=>by have:=hw (j+1) x (by simpa using hx) hd;rwa [show i+(j+1)=i+1+j by omega] at this)
  by_cases hd:o.dst=some t
  ·have h0:=hw 0 (o,p) rfl hd
   simp only [xf] at h0
   rw [h0]
   cases S' i
   ·exact h
   ·simp [qsp,hd]
  ·cases S i <;> cases S' i <;> simp [qsp,hd,h]
theorem qmm (y:Nat):∀ (L:List (Oper × Pst)) (i:Nat) (S S':Nat→Bool) (s s':List (Nat × SO)),look s y=look s' y→
  (∀ (j:Nat) (x:Oper × Pst),L[j]?=some x→look x.2.ps y≠none→S (i+j)=S' (i+j))→look (stAt L i S s) y=look (stAt L i S' s') y:=by
 intro L
 induction L with
 | nil=>intro i S S' s s' h _;exact h
 | cons x r ih=>
  intro i S S' s s' h hw
  obtain ⟨o,p⟩:=x
  simp only [stAt]
  refine ih (i+1) S S' _ _ ?_ (fun j x hx hd=>by have:=hw (j+1) x (by simpa using hx) hd;rwa [show i+(j+1)=i+1+j by omega] at this)
  cases hl:look p.ps y with
  | some z=>
   have h0:=hw 0 (o,p) rfl (by rw [hl];simp)
   simp only [xf] at h0
   rw [h0]
   cases S' i
   ·exact h
   ·simp [qdj,hl]
  | none=>cases S i <;> cases S' i <;> simp [qdj,hl,h]
def conf (x y:Pst):Bool:=x.ps.any fun e=>y.ft.any (Nat.beq e.1) || y.ps.any fun e'=>Nat.beq e.1 e'.1
theorem qyc {x y:Pst} {q:Nat} (h:look x.ps q≠none) (hq:q∈y.ft):conf x y=true:=by
 cases hl:look x.ps q with
 | none=>exact absurd hl h
 | some z=>
  refine List.any_eq_true.2 ⟨(q,z),qdv hl,?_⟩
  have:y.ft.any (Nat.beq q)=true:=List.any_eq_true.2 ⟨q,hq,by simp⟩
  simp [this]
theorem jhy {x y:Pst} {q:Nat} (h:look x.ps q≠none) (hq:look y.ps q≠none):conf x y=true:=by
 cases hl:look x.ps q with
 | none=>exact absurd hl h
 | some z=>
  cases hl':look y.ps q with
  | none=>exact absurd hl' hq
  | some z'=>
   refine List.any_eq_true.2 ⟨(q,z),qdv hl,?_⟩
   have:(y.ps.any fun e'=>Nat.beq q e'.1)=true:=List.any_eq_true.2 ⟨(q,z'),qdv hl',by simp⟩
   simp [this]
def qcj (full:Array Oper) (x y:Oper × Pst):Bool:=(conf x.2 y.2 || conf y.2 x.2) || (hits full x.1 y.1 || hits full y.1 x.1)
theorem qsq (full:Array Oper) (x y:Oper × Pst):qcj full x y=qcj full y x:=by
 simp only [qcj,Bool.or_comm]
def qez (full:Array Oper) (L:List (Oper × Pst)):Bool:=
 (List.range L.length).all fun j=>
  ((List.range j).all fun i=>(match L[i]?,L[j]? with|some x,some y=>!qcj full x y || (anc full L.length j).contains i|_,_=>true)) &&
  (match full.toList[j]? with|some o=>o.after.all fun e=>!Region.binds .any e || Nat.blt e.on j|none=>true)
theorem qkm {full:Array Oper} {L:List (Oper × Pst)} (h:qez full L=true) {i j:Nat} {x y:Oper × Pst} (hij:i<j) (hx:L[i]?=some x) (hy:L[j]?=some y) (hc:qcj full x y=true):i∈anc full L.length j:=by
 have hj:j<L.length:=(List.getElem?_eq_some_iff.1 hy).1
 have h1:=List.all_eq_true.1 h j (List.mem_range.2 hj)
 simp only [zf] at h1
 have h2:=List.all_eq_true.1 h1.1 i (List.mem_range.2 hij)
 rw [hx,hy] at h2
 simp only [hc,xx,xq] at h2
 simpa using h2
theorem jhz {full:Array Oper} {L:List (Oper × Pst)} (h:qez full L=true) {j:Nat} (hj:j<L.length) {o:Oper} (ho:full.toList[j]?=some o):∀ e∈o.after,Region.binds .any e=true→e.on<j:=by
 have h1:=List.all_eq_true.1 h j (List.mem_range.2 hj)
 simp only [zf,ho] at h1
 intro e he hb
 have:=(Array.all_eq_true_iff_forall_mem.1 h1.2) e he
 simp only [hb,xx,xq,xl] at this
 exact this
structure SF (c:Ctx) (F:Nat→Prop) (rd:Rd) (mp:Mp) (sl:List (Nat × AV)) (st:List (Nat × SO)) (a:Act) (w:World):Prop where
 slots:∀ t,Rel rd mp (getS sl t) (a.tmps.getD t undef)
 defers:a.defers=[]
 mem:Mem (c.free fun _=>F) rd mp st 0 w
def less (F:Nat→Prop) (a b:Nat):Nat→Prop:=fun y=>F y∧¬ (a≤y∧y<b)
def qir (E:Env) (full:Array Oper) (F:Nat→Prop) (sl:List (Nat × AV)) (st:List (Nat × SO)) (o:Oper) (p:Pst):Prop:=
 ∀ rd mp a w,SF E.c F rd mp sl st a w→a.tmps.size=E.fn.ntmps→∀ (K:Act→World→Prop) (Q:Exit→Act→World→Prop),
  (∀ x w' rd' mp',Rd.le rd rd'→Mp.le mp mp'→Mem (E.c.free fun _=>less F p.a p.b) rd' mp' (p.ps++st) 0 w'→Rel rd' mp' p.v x→(∀ d,o.dst=some d→d<a.tmps.size)→K (a.put o.dst x) w')→
  if Region.wanted o (yielded full a.tmps) then o.wp E.P a w K Q∨(o.asks E.P a w∧LetsOut Q) else K (a.put o.dst undef) w
def qkn (L:List (Oper × Pst)) (nE:Nat) (S:Nat→Bool) (y:Nat):Prop:=nE≤y∨∃ (i:Nat) (x:Oper × Pst),L[i]?=some x∧S i=false∧x.2.a≤y∧y<x.2.b
theorem qyd {E:Env} {B:Nat→ASt→Prop} {ops:Array Oper} {k:List Itm} {s sE:ASt} {L:List (Oper × Pst)} (hLo:L.map (·.1)=ops.toList)
  (hst:∀ (i:Nat) x,L[i]?=some x→∀ S,Adm ops L.length S i→qir E ops (qkn L sE.nx S) (slAt L 0 S s.sl) (stAt L 0 S s.st) x.1 x.2)
  (hrg:∀ (i j:Nat) x y,i<j→L[i]?=some x→L[j]?=some y→x.2.b≤y.2.a) (hrE:∀ (i:Nat) x,L[i]?=some x→x.2.b≤sE.nx)
  (hslE:∀ t,getS (slAt L 0 (fun _=>true) s.sl) t=sE.get t) (hstE:∀ y,look (stAt L 0 (fun _=>true) s.st) y=look sE.st y)
  (hord:qez ops L=true) (hstd:E.c.fre=stdF) (hfin:Ok E B k sE) :
  ∀ (fuel:Nat) (listed:Array Bool) (a:Act) (w:World),listed.size=ops.size→listed.count false≤fuel→
   (∀ j o,ops.toList[j]?=some o→listed.getD j false=true→∀ e∈o.after,Region.binds .any e=true→listed.getD e.on false=true)→
   a.tmps.size=E.fn.ntmps→(∃ rd mp,SF E.c (qkn L sE.nx fun i=>listed.getD i false) rd mp (slAt L 0 (fun i=>listed.getD i false) s.sl) (stAt L 0 (fun i=>listed.getD i false) s.st) a w∧Base E rd mp)→wpAny E.P .any ops (QK E B k) fuel listed a w:=by
 have hlen:L.length=ops.size:=by have:=congrArg List.length hLo;simpa using this
 have done:∀ (listed:Array Bool) (a:Act) (w:World),listed.size=ops.size→(∀ i,i<ops.size→listed.getD i false=true)→a.tmps.size=E.fn.ntmps→
   (∃ rd mp,SF E.c (qkn L sE.nx fun i=>listed.getD i false) rd mp (slAt L 0 (fun i=>listed.getD i false) s.sl) (stAt L 0 (fun i=>listed.getD i false) s.st) a w∧Base E rd mp)→QK E B k .normal a w:=by
  rintro listed a w _ hall hsz ⟨rd,mp,hs,hrd⟩
  have hS:∀ (j:Nat) (x:Oper × Pst),L[j]?=some x→(fun i=>listed.getD i false) (0+j)=(fun _=>true) (0+j):=by
   intro j x hx
   rw [zn]
   exact hall j (by rw [← hlen];exact (List.getElem?_eq_some_iff.1 hx).1)
  refine hfin rd mp a w ⟨fun t=>?_,hs.defers,?_⟩ hrd hsz
  ·have:=hs.slots t
   rw [qml t L 0 _ (fun _=>true) s.sl s.sl rfl (fun j x hx _=>hS j x hx),hslE t] at this
   exact this
  ·have h1:=hs.mem.refre (F:=E.c.fre) (nx':=sE.nx) (fun i hi=>by rw [hstd] at hi;exact .inl hi)
   rw [Ctx.free_free,Ctx.free_self] at h1
   refine h1.forget (fun y x hx=>?_)
   rw [qmm y L 0 _ (fun _=>true) s.st s.st rfl (fun j x hx _=>hS j x hx),hstE y]
   exact hx
 have full_of_ready:∀ (listed:Array Bool),listed.size=ops.size→Region.ready .any ops listed=[]→∀ i,i<ops.size→listed.getD i false=true:=by
  intro listed hls hr i
  induction i using Nat.strongRecOn with
  | _ i ih=>
   intro hi
   cases hl:listed.getD i false with
   | true=>rfl
   | false=>
    exfalso
    have hmem:i∈Region.ready .any ops listed:=by
     rw [mem_ready]
     refine ⟨by simp [hls,hi] at hl ⊢;exact hl,ops[i],by simp [hi],fun e he hb=>?_⟩
     have:=jhz hord (j:=i) (by omega) (o:=ops[i]) (by simp [hi]) e he hb
     exact ih e.on this (by omega)
    rw [hr] at hmem
    simp at hmem
 intro fuel
 induction fuel with
 | zero=>
  intro listed a w hls hcnt hcl hsz hs
  have hall:∀ i,i<ops.size→listed.getD i false=true:=by
   intro i hi
   cases hl:listed.getD i false with
   | true=>rfl
   | false=>
    exfalso
    have hi':i<listed.size:=by omega
    have:false∈listed:=by
     have h2:listed[i]=false:=by simpa [hi'] using hl
     rw [← h2];exact Array.getElem_mem hi'
    have:=Array.count_pos_iff.2 this
    omega
  refine ⟨?_,done listed a w hls hall hsz hs⟩
  cases hr:Region.ready .any ops listed with
  | nil=>rfl
  | cons i r=>
   exfalso
   have hmem:i∈Region.ready .any ops listed:=by rw [hr];simp
   rw [mem_ready] at hmem
   obtain ⟨h0,o,ho,_⟩:=hmem
   have hi:i<ops.size:=(Array.getElem?_eq_some_iff.1 ho).1
   have:=hall i hi
   have hi':i<listed.size:=by omega
   simp [hi'] at h0 this
   rw [h0] at this
   cases this
 | succ fuel ih=>
  intro listed a w hls hcnt hcl hsz hs
  refine ⟨fun hr=>done listed a w hls (full_of_ready listed hls hr) hsz hs,fun i hi=>?_⟩
  rw [mem_ready] at hi
  obtain ⟨h0,o,ho,hedges⟩:=hi
  have hin:i<ops.size:=(Array.getElem?_eq_some_iff.1 ho).1
  have hil:i<listed.size:=by omega
  have hli:listed.getD i false=false:=by simp [hil] at h0 ⊢;exact h0
  have hol:ops.toList[i]?=some o:=by simpa using ho
  obtain ⟨rd,mp,hs,hrd⟩:=hs
  obtain ⟨p,hp⟩:∃ p,L[i]?=some (o,p):=by
   have hi':i<L.length:=by omega
   refine ⟨L[i].2,?_⟩
   have:(L.map (·.1))[i]?=some o:=by rw [hLo];exact hol
   rw [zg,ze hi'] at this
   simp at this
   rw [ze hi',← this]
  -- what is ahead is done, what is behind is not
  have hanc:∀ j∈anc ops L.length i,listed.getD j false=true:=qhh ops _ hcl _ i (fun o' ho'=>by rw [hol] at ho';cases ho';exact hedges)
  have hbeh:∀ j,i∈anc ops L.length j→j<ops.size→listed.getD j false=false:=by
   intro j hj hjs
   cases hl:listed.getD j false with
   | false=>rfl
   | true=>
    exfalso
    have:=qhh ops _ hcl L.length j (fun o' ho'=>hcl j o' ho' hl) i hj
    rw [hli] at this
    cases this
  have agree:∀ (j:Nat) x,L[j]?=some x→qcj ops x (o,p)=true→listed.getD j false=decide (j<i):=by
   intro j x hx hc1
   have hj:j<ops.size:=by rw [← hlen];exact (List.getElem?_eq_some_iff.1 hx).1
   have hc2:qcj ops (o,p) x=true:=by rw [← qsq];exact hc1
   rcases zap j i with h|h|h
   ·simp only [h,decide_true];exact hanc j (qkm hord h hx hp hc1)
   ·subst h;simp only [Nat.lt_irrefl,decide_false];exact hli
   ·have:¬ j<i:=by omega
    simp only [this,decide_false]
    exact hbeh j (qkm hord h hp hx hc2) hj
  have hcld:∀ (j:Nat) x t,L[j]?=some x→x.1.dst=some t→o.dst=some t→qcj ops x (o,p)=true:=by
   intro j x t _ hd ht
   have:hits ops x.1 o=true:=by simp [hits,hd,ht]
   simp [qcj,this]
  have hclm:∀ (j:Nat) (x:Oper × Pst) y,L[j]?=some x→look x.2.ps y≠none→look p.ps y≠none→qcj ops x (o,p)=true:=by
   intro j x y _ h1 h2
   simp [qcj,jhy h1 h2]
  have hstep':=hst i (o,p) hp (fun q=>listed.getD q false) ⟨hanc,hli,hbeh,fun j hj q hq=>qhh ops _ hcl L.length j (fun o' ho'=>hcl j o' ho' hj) q hq⟩
  have hS':∀ j,j≠i→(listed.setIfInBounds i true).getD j false=listed.getD j false:=fun j hj=>getD_set_ne false (Ne.symm hj)
  have hS'i:(listed.setIfInBounds i true).getD i false=true:=by simp [hil]
  have agree':∀ (j:Nat) x,L[j]?=some x→qcj ops x (o,p)=true→(listed.setIfInBounds i true).getD j false=decide (j<i+1):=by
   intro j x hx hc
   by_cases hji:j=i
   ·subst hji;rw [hS'i];simp
   ·rw [hS' j hji,agree j x hx hc]
    have:(j<i)↔(j<i+1):=by omega
    simp [this]
  -- the set up to i, and i itself
  have qpa:∀ (M:List (Oper × Pst)) (m b:Nat),b≤m→∀ s,slAt M m (fun j=>decide (j<b)) s=s:=by
   intro M
   induction M with
   | nil=>intro m b _ s;rfl
   | cons y M ihM=>
    intro m b hb s
    obtain ⟨o'',p''⟩:=y
    simp only [slAt]
    have:decide (m<b)=false:=by simp;omega
    rw [this]
    exact ihM (m+1) b (by omega) s
  have qpb:∀ (M:List (Oper × Pst)) (m b:Nat),b≤m→∀ s,stAt M m (fun j=>decide (j<b)) s=s:=by
   intro M
   induction M with
   | nil=>intro m b _ s;rfl
   | cons y M ihM=>
    intro m b hb s
    obtain ⟨o'',p''⟩:=y
    simp only [stAt]
    have:decide (m<b)=false:=by simp;omega
    rw [this]
    exact ihM (m+1) b (by omega) s
  have hsucc_sl:∀ (L':List (Oper × Pst)) (k' i':Nat) (s':List (Nat × AV)),L'[i']?=some (o,p)→slAt L' k' (fun j=>decide (j<k'+i'+1)) s'=qbj (slAt L' k' (fun j=>decide (j<k'+i')) s') o.dst p.v:=by
   intro L'
   induction L' with
   | nil=>intro k' i' s' h;simp at h
   | cons y L' ihL=>
    intro k' i' s' h
    obtain ⟨o',p'⟩:=y
    cases i' with
    | zero=>
     simp at h
     obtain ⟨rfl,rfl⟩:=h
     simp only [slAt]
     have e1:decide (k'<k'+0+1)=true:=by simp
     have e2:decide (k'<k'+0)=false:=by simp
     rw [e1,e2]
     simp only [cond_true,cond_false]
     rw [qpa L' (k'+1) (k'+0+1) (by omega),qpa L' (k'+1) (k'+0) (by omega)]
    | succ i'=>
     simp at h
     simp only [slAt]
     have e1:decide (k'<k'+(i'+1)+1)=true:=by simp;omega
     have e2:decide (k'<k'+(i'+1))=true:=by simp
     rw [e1,e2]
     simp only [cond_true]
     have:=ihL (k'+1) i' (qbj s' o'.dst p'.v) h
     rw [show k'+1+i'+1=k'+(i'+1)+1 by omega,show k'+1+i'=k'+(i'+1) by omega] at this
     exact this
  have hsucc_st:∀ (L':List (Oper × Pst)) (k' i':Nat) (s':List (Nat × SO)),L'[i']?=some (o,p)→stAt L' k' (fun j=>decide (j<k'+i'+1)) s'=p.ps++stAt L' k' (fun j=>decide (j<k'+i')) s':=by
   intro L'
   induction L' with
   | nil=>intro k' i' s' h;simp at h
   | cons y L' ihL=>
    intro k' i' s' h
    obtain ⟨o',p'⟩:=y
    cases i' with
    | zero=>
     simp at h
     obtain ⟨rfl,rfl⟩:=h
     simp only [stAt]
     have e1:decide (k'<k'+0+1)=true:=by simp
     have e2:decide (k'<k'+0)=false:=by simp
     rw [e1,e2]
     simp only [cond_true,cond_false]
     rw [qpb L' (k'+1) (k'+0+1) (by omega),qpb L' (k'+1) (k'+0) (by omega)]
    | succ i'=>
     simp at h
     simp only [stAt]
     have e1:decide (k'<k'+(i'+1)+1)=true:=by simp;omega
     have e2:decide (k'<k'+(i'+1))=true:=by simp
     rw [e1,e2]
     simp only [cond_true]
     have:=ihL (k'+1) i' (p'.ps++s') h
     rw [show k'+1+i'+1=k'+(i'+1)+1 by omega,show k'+1+i'=k'+(i'+1) by omega] at this
     exact this
  have hsi:=hsucc_sl L 0 i s.sl hp
  have hsi2:=hsucc_st L 0 i s.st hp
  simp only [zn] at hsi hsi2
  unfold wpOp
  rw [ho]
  refine hstep' rd mp a w hs hsz _ _ (fun x w' rd' mp' hr hm hmem hrel hdst=>?_)
  refine ih (listed.setIfInBounds i true) _ w' (by simpa using hls) ?_ ?_ (by rw [qdd];exact hsz) ⟨rd',mp',⟨fun t=>?_,?_,?_⟩,hrd.step hr hm⟩
  ·have hl2:listed[i]=false:=by simpa [hil] using hli
   have hc:=Array.count_set (xs:=listed) (i:=i) (a:=true) (b:=false) hil
   rw [Array.setIfInBounds,dif_pos hil,hc,hl2]
   have:0<listed.count false:=Array.count_pos_iff.2 (by rw [← hl2];exact Array.getElem_mem hil)
   simp
   omega
  ·intro j o' ho' hj e he hb
   by_cases hji:j=i
   ·subst hji
    rw [hol] at ho';cases ho'
    exact getD_set_true (hedges e he hb)
   ·rw [hS' j hji] at hj
    exact getD_set_true (hcl j o' ho' hj e he hb)
  ·by_cases hd:o.dst=some t
   ·have hlt:=hdst t hd
    have hget:getS (slAt L 0 (fun q=>(listed.setIfInBounds i true).getD q false) s.sl) t=p.v:=by
     rw [qml t L 0 _ (fun j=>decide (j<i+1)) s.sl s.sl rfl (fun j x hx hdx=>by rw [zn];exact agree' j x hx (hcld j x t hx hdx hd)),hsi,qsp,zb hd]
    rw [hget]
    have:(a.put o.dst x).tmps.getD t undef=x:=by rw [hd];simp [Act.put,hlt]
    rw [this]
    exact hrel
   ·have hget:getS (slAt L 0 (fun q=>(listed.setIfInBounds i true).getD q false) s.sl) t=getS (slAt L 0 (fun q=>listed.getD q false) s.sl) t:=by
     refine qml t L 0 _ _ s.sl s.sl rfl (fun j x hx hdx=>?_)
     rw [zn]
     refine hS' j (fun e=>?_)
     subst e
     rw [hp] at hx;cases hx
     exact hd hdx
    rw [hget]
    have:(a.put o.dst x).tmps.getD t undef=a.tmps.getD t undef:=by
     cases hdd:o.dst with
     | none=>rfl
     | some d=>
      simp only [Act.put,zx]
      rw [xi (fun e=>hd (by rw [hdd,e]))]
    rw [this]
    exact (hs.slots t).mono hr hm
  ·cases o.dst <;> exact hs.defers
  ·have h1:=hmem.refre (F:=fun _=>qkn L sE.nx fun q=>(listed.setIfInBounds i true).getD q false) (nx':=0) (fun y hy=>by
    rcases hy with hy|⟨j,z,hz,hSz,hz1,hz2⟩
    ·exact ⟨.inl hy,fun h=>Nat.not_lt.2 hy (zae h.2 (hrE i _ hp))⟩
    ·simp only at hSz
     have hji:j≠i:=by rintro rfl;rw [hS'i] at hSz;cases hSz
     rw [hS' j hji] at hSz
     refine ⟨.inr ⟨j,z,hz,hSz,hz1,hz2⟩,fun h=>?_⟩
     rcases Nat.lt_or_gt_of_ne hji with h'|h'
     ·exact Nat.not_lt.2 h.1 (zae hz2 (hrg j i _ _ h' hz hp))
     ·exact Nat.not_lt.2 hz1 (zae h.2 (hrg i j _ _ h' hp hz)))
   rw [Ctx.free_free] at h1
   refine h1.forget (fun y z hz=>?_)
   rw [← hz]
   cases hl:look p.ps y with
   | none=>
    rw [qdj,hl]
    refine qmm y L 0 _ _ s.st s.st rfl (fun j x hx hw=>?_)
    rw [zn]
    refine (hS' j (fun e=>?_)).symm
    subst e
    rw [hp] at hx;cases hx
    exact hw hl
   | some u=>
    rw [qdj,hl]
    simp only
    rw [qmm y L 0 (fun q=>(listed.setIfInBounds i true).getD q false) (fun j=>decide (j<i+1)) s.st s.st rfl (fun j x hx hw=>by rw [zn];exact agree' j x hx (hclm j x y hx hw (by rw [hl];simp))),hsi2,qdj,hl]
end Go.Sx
end
section
namespace Go.Sx
open Go Go.RowKit
variable {c:Ctx} {rd rd':Rd} {mp mp':Mp} {st:List (Nat × SO)} {nx:Nat} {w w':World}
def inv0 (is:List Nat) (y:Nat):Option Nat:=if y∈is then some (is.idxOf y) else none
def nm0 (is:List Nat) (j:Nat):Nat:=is.getD j 0
def Mp.back0 (mp mp':Mp) (is:List Nat):Mp:=
 ⟨fun y=>match inv0 is y with|some j=>mp'.blk j | .none=>mp.blk y,fun y i=>match inv0 is y with|some j=>mp'.row j i | .none=>mp.row y i⟩
theorem qis {is:List Nat} (hd:is.Nodup) {j:Nat} (hj:j<is.length):inv0 is (nm0 is j)=some j:=by
 unfold inv0 nm0
 have hg:is.getD j 0=is[j]:=by simp [List.getD,hj]
 rw [hg,zb (xt hj),hd.idxOf_getElem j hj]
theorem qgo {is:List Nat} {y j:Nat} (h:inv0 is y=some j):nm0 is j=y∧j<is.length:=by
 unfold inv0 at h
 split at h
 ·rename_i hm
  cases h
  have hl:=zaf hm
  exact ⟨by unfold nm0;simp [List.getD,hl],hl⟩
 ·cases h
theorem qye {is:List Nat} (hd:is.Nodup) {i j:Nat} (hi:i<is.length) (hj:j<is.length) (h:nm0 is i=nm0 is j):i=j:=by
 have h1:=qis hd hi
 rw [h,qis hd hj] at h1
 cases h1;rfl
theorem qyf {is:List Nat} (hd:is.Nodup):∀ (st1:List (Nat × SO)),(∀ p∈st1,p.1<is.length)→∀ (y:Nat),
  look (jc (nm0 is) st1) y=match inv0 is y with|some j=>(look st1 j).map (SO.ren (nm0 is))|none=>none
 | [],_,y=>by cases inv0 is y <;> rfl
 | (j,o)::r,hl,y=>by
  have hj:j<is.length:=hl (j,o) (xz ..)
  have ih:=qyf hd r (fun p hp=>hl p (xu _ hp)) y
  simp only [jc,xp] at ih ⊢
  rw [qq,ih]
  by_cases hy:nm0 is j=y
  ·rw [zb hy,← hy,qis hd hj]
   simp only
   rw [qq,zb rfl];rfl
  ·rw [za hy]
   cases hi:inv0 is y with
   | none=>rfl
   | some j'=>
    simp only
    rw [qq,za (fun e=>hy (by rw [e];exact (qgo hi).1))]
theorem qfv {is:List Nat} (hd:is.Nodup) {st1:List (Nat × SO)} (hl:∀ p∈st1,p.1<is.length) (y:Nat) :
  look (jc (nm0 is) st1++qu is st) y=match inv0 is y with|some j=>(look st1 j).map (SO.ren (nm0 is))|none=>look st y:=by
 rw [qdj,qyf hd st1 hl,qgm]
 cases hi:inv0 is y with
 | none=>
  simp only
  rw [za]
  intro hm
  simp [inv0,hm] at hi
 | some j=>
  simp only
  cases hk:look st1 j with
  | some o=>rfl
  | none=>
   simp only [Option.map_none]
   rw [zb]
   unfold inv0 at hi
   split at hi
   ·assumption
   ·cases hi
theorem qyg {is:List Nat} (hd:is.Nodup) {st1:List (Nat × SO)} (hl:∀ p∈st1,p.1<is.length) {y i:Nat} {R:RowV} (hR:IsMem (jc (nm0 is) st1++qu is st) y i R) :
  (∃ j R0,(nm0 is j=y∧j<is.length)∧IsMem st1 j i R0∧R=R0.ren (nm0 is))∨(inv0 is y=none∧IsMem st y i R):=by
 have hb:=qfv (st:=st) hd hl y
 cases hi:inv0 is y with
 | none=>
  rw [hi] at hb
  simp only at hb
  refine .inr ⟨rfl,?_⟩
  cases hR with
  | row hl=>rw [hb] at hl;exact .row hl
  | fam hl h=>rw [hb] at hl;exact .fam hl h
 | some j=>
  rw [hi] at hb
  simp only at hb
  refine .inl ⟨j,?_⟩
  cases hR with
  | row hl=>
   rw [hb] at hl
   obtain ⟨o,ho,he⟩:=Option.map_eq_some_iff.1 hl
   cases o with
   | box=>simp [SO.ren] at he
   | fam=>simp [SO.ren] at he
   | ro=>simp [SO.ren] at he
   | row ids e sz ep n f=>
    simp only [SO.ren,SO.row.injEq] at he
    obtain ⟨rfl,rfl,rfl,rfl,rfl,rfl⟩:=he
    exact ⟨⟨ids,_,_,_,_,f⟩,qgo hi,.row ho,rfl⟩
  | fam hl h=>
   rw [hb] at hl
   obtain ⟨o,ho,he⟩:=Option.map_eq_some_iff.1 hl
   cases o with
   | box=>simp [SO.ren] at he
   | row=>simp [SO.ren] at he
   | ro=>simp [SO.ren] at he
   | fam e sz cnt ep len f=>
    simp only [SO.ren,SO.fam.injEq] at he
    obtain ⟨rfl,rfl,rfl,rfl,rfl,rfl⟩:=he
    exact ⟨⟨[],_,_,_,_,_⟩,qgo hi,.fam ho h,rfl⟩
theorem Mem.leave0 {is:List Nat} {st0 st1:List (Nat × SO)} (hm:Mem c rd mp st nx w) (hd:is.Nodup) (hnm:Named st0 st (nm0 is)) (h0:∀ p∈st0,p.1<is.length) (hr:Rd.le rd rd')
  (hm':Mem ⟨w,rd,fun g=>∃ p,There st0 p∧blkOf mp (p.ren (nm0 is))=some g,stdF⟩ rd' mp' st1 is.length w') (hlt1:stLt is.length st1=true) (hrows:rowsLt is.length st1) (hp:Mp.le ((mp.pull (nm0 is)).restrict is.length) mp')
  (hin:∀ i∈is,look st i≠none) :
  Mp.le mp (mp.back0 mp' is)∧Mp.le mp' ((mp.back0 mp' is).pull (nm0 is))∧Mem c rd' (mp.back0 mp' is) (jc (nm0 is) st1++qu is st) nx w':=by
 have hl1:∀ p∈st1,p.1<is.length:=by
  intro p hp
  have:=(List.all_eq_true.1 hlt1) p hp
  simp only [zf,zl] at this
  omega
 have hfr':∀ j,is.length≤j→mp'.blk j=none∧∀ i,mp'.row j i=none:=fun j hj=>hm'.fresh j hj
 have hle:Mp.le mp (mp.back0 mp' is):=by
  refine ⟨fun y g hg=>?_,fun y i v e n hg=>?_⟩
  ·simp only [Mp.back0]
   cases hi:inv0 is y with
   | none=>exact hg
   | some j=>
    simp only
    obtain ⟨hy,hj⟩:=qgo hi
    exact hp.blk j g (by simp [Mp.restrict,Mp.pull,hj,hy,hg])
  ·simp only [Mp.back0]
   cases hi:inv0 is y with
   | none=>exact ⟨v,e,n,hg,.inr ⟨rfl,.inr ⟨rfl,rfl⟩⟩⟩
   | some j=>
    simp only
    obtain ⟨hy,hj⟩:=qgo hi
    exact hp.row j i v e n (by simp [Mp.restrict,Mp.pull,hj,hy,hg])
 have hblkN:∀ j,j<is.length→(mp.back0 mp' is).blk (nm0 is j)=mp'.blk j∧∀ i,(mp.back0 mp' is).row (nm0 is j) i=mp'.row j i:=by
  intro j hj
  simp only [Mp.back0,qis hd hj,implies_true,and_self]
 have hpull:Mp.le mp' ((mp.back0 mp' is).pull (nm0 is)):=by
  refine ⟨fun j g hg=>?_,fun j i v e n hg=>⟨v,e,n,?_,.inr ⟨rfl,.inr ⟨rfl,rfl⟩⟩⟩⟩
  ·by_cases hj:j<is.length
   ·simp only [Mp.pull,(hblkN j hj).1];exact hg
   ·rw [(hfr' j (by omega)).1] at hg;cases hg
  ·by_cases hj:j<is.length
   ·simp only [Mp.pull,(hblkN j hj).2];exact hg
   ·rw [(hfr' j (by omega)).2] at hg;cases hg
 have hid1:∀ j o,look st1 j=some o→j<is.length∧o.lt is.length=true:=by
  intro j o hx
  have:=(List.all_eq_true.1 hlt1) _ (qdv hx)
  simp only [zf,zl] at this
  exact ⟨by omega,this.2⟩
 have hfx:∀ g,(∃ p,There st0 p∧blkOf mp (p.ren (nm0 is))=some g)→c.w0.heap.size≤g∨c.fx g:=by
  rintro g ⟨p,hp',hg⟩
  exact (hm.home (hnm.there hp') hg).2.2
 -- a place of the frame is none of the callee's
 have hframe:∀ p g,There st p→(match p with | .bx b=>inv0 is b | .rw r _=>inv0 is r)=none→blkOf mp p=some g→¬ ∃ q,There st0 q∧blkOf mp (q.ren (nm0 is))=some g:=by
  rintro p g hp' hi hg ⟨q,hq,hgq⟩
  have he:=hm.inj p _ g hp' (hnm.there hq) hg hgq
  cases q with
  | bx b=>
   obtain ⟨ty,cs,hl⟩:=hq
   have hb:b<is.length:=h0 _ (qdv hl)
   simp only [Pl.ren] at he
   subst he
   simp only [qis hd hb] at hi
   cases hi
  | rw r i=>
   obtain ⟨R,hR⟩:=hq
   have hb:r<is.length:=by cases hR with|row hl=>exact h0 _ (qdv hl)|fam hl _=>exact h0 _ (qdv hl)
   simp only [Pl.ren] at he
   subst he
   simp only [qis hd hb] at hi
   cases hi
 have hkeep:∀ p g,There st p→(match p with | .bx b=>inv0 is b | .rw r _=>inv0 is r)=none→blkOf mp p=some g→w'.heap[g]?=w.heap[g]?∧∀ o,rd' g o=none:=by
  intro p g hp' hi hg
  obtain ⟨h1,h2,_⟩:=hm.home hp' hg
  refine ⟨hm'.fr.block g h1 (hframe p g hp' hi hg),fun o=>?_⟩
  cases hv:rd' g o with
  | none=>rfl
  | some v=>
   rcases hm'.rdn g o v hv with h|h|h
   ·have h':rd g o=some v:=h
    rw [h2 o] at h';cases h'
   ·have h':w.heap.size≤g:=h
    omega
   ·exact absurd h (hframe p g hp' hi hg)
 have hnew:∀ p g,There st1 p→blkOf mp' p=some g→(c.w0.heap.size≤g∨c.fx g)∧(w.heap.size≤g∨∃ q,There st0 q∧blkOf mp (q.ren (nm0 is))=some g):=by
  intro p g hp' hg
  rcases (hm'.home hp' hg).2.2 with h|h
  ·have h':w.heap.size≤g:=h
   exact ⟨.inl (xb hm.fr.size h'),.inl h'⟩
  ·exact ⟨hfx g h,.inr h⟩
 have hblk1:∀ p,There st1 p→blkOf (mp.back0 mp' is) (p.ren (nm0 is))=blkOf mp' p:=by
  intro p hp'
  cases p with
  | bx b=>
   obtain ⟨ty,cs,hl⟩:=hp'
   exact (hblkN b (hid1 _ _ hl).1).1
  | rw r i=>
   obtain ⟨R,hR⟩:=hp'
   have hb:r<is.length:=by cases hR with|row hl=>exact (hid1 _ _ hl).1|fam hl _=>exact (hid1 _ _ hl).1
   simp only [blkOf,Pl.ren,(hblkN r hb).2]
 have hblk0:∀ p:Pl,(match p with | .bx b=>inv0 is b | .rw r _=>inv0 is r)=none→blkOf (mp.back0 mp' is) p=blkOf mp p:=by
  intro p hi
  cases p with
  | bx b=>simp only at hi;simp [blkOf,Mp.back0,hi]
  | rw r i=>simp only at hi;simp [blkOf,Mp.back0,hi]
 -- a place of the new store
 have hcase:∀ p,There (jc (nm0 is) st1++qu is st) p→(∃ q,There st1 q∧p=q.ren (nm0 is))∨(There st p∧(match p with | .bx b=>inv0 is b | .rw r _=>inv0 is r)=none):=by
  intro p hp'
  cases p with
  | bx b=>
   obtain ⟨ty,cs,hl⟩:=hp'
   rw [qfv hd hl1] at hl
   cases hi:inv0 is b with
   | none=>rw [hi] at hl;exact .inr ⟨⟨ty,cs,hl⟩,hi⟩
   | some j=>
    rw [hi] at hl
    obtain ⟨o,ho,he⟩:=Option.map_eq_some_iff.1 hl
    obtain ⟨cs0,rfl,_⟩:=SO.ren_box he
    exact .inl ⟨.bx j,⟨ty,cs0,ho⟩,by simp [Pl.ren,(qgo hi).1]⟩
  | rw r i=>
   obtain ⟨R,hR⟩:=hp'
   rcases qyg hd hl1 hR with ⟨j,R0,⟨rfl,_⟩,h1,_⟩|⟨hi,h1⟩
   ·exact .inl ⟨.rw j i,⟨R0,h1⟩,rfl⟩
   ·exact .inr ⟨⟨R,h1⟩,hi⟩
 refine ⟨hle,hpull,hm'.rdw,hm'.rd1,fun g o v hv=>?_,⟨hm'.fr.os.trans hm.fr.os,hm'.fr.tape.trans hm.fr.tape,hm'.fr.output.trans hm.fr.output,xb hm.fr.size hm'.fr.size,fun k hk hf=>?_⟩,fun b ty cs hl=>?_,fun r i R hR=>?_,fun p q g hp' hq' hgp hgq=>?_,fun y hy=>?_,fun y x hx=>?_,fun r e sz cnt ep len f hl i hi=>?_,fun r sz ep n f hl=>?_,hm.tab.1,hm.tab.2.trans hm'.tab.2⟩
 ·rcases hm'.rdn g o v hv with h|h|h
  ·exact hm.rdn g o v h
  ·exact .inr (.inl (xb hm.fr.size h))
  ·exact .inr (hfx g h)
 ·rw [← hm.fr.block k hk hf]
  refine hm'.fr.block k (zae hk hm.fr.size) (fun h=>?_)
  rcases hfx k h with h|h
  ·omega
  ·exact hf h
 ·rw [qfv hd hl1] at hl
  cases hi:inv0 is b with
  | none=>
   rw [hi] at hl
   exact (hm.bx b ty cs hl).keep hr hle (fun g hg=>hkeep (.bx b) g ⟨ty,cs,hl⟩ hi hg)
  | some j=>
   rw [hi] at hl
   obtain ⟨o,ho,he⟩:=Option.map_eq_some_iff.1 hl
   obtain ⟨cs0,rfl,rfl⟩:=SO.ren_box he
   obtain ⟨g,vs,h1,h2,h3,h4,h5,h6⟩:=hm'.bx j ty cs0 ho
   refine ⟨g,vs,by simp [Mp.back0,hi,h1],h2,by simpa using h3,?_,h5,(hnew (.bx j) g ⟨ty,cs0,ho⟩ h1).1⟩
   exact (qio (ι:=nm0 is) (n:=is.length) (hid1 _ _ ho).2).1 (fun j x v hx hv=>(h4 j x v hx hv).mono (Rd.le.refl _) hpull)
 ·rcases qyg hd hl1 hR with ⟨j,R0,⟨rfl,hjl⟩,h1,rfl⟩|⟨hi,h1⟩
  ·obtain ⟨v,xs,g1,g2,g3,g4,g5⟩:=hm'.mb j i R0 h1
   refine ⟨v,xs,by rw [(hblkN j hjl).2];exact g1,g2,fun k hk=>by rw [RowV.ren_len];exact g3 k hk,?_,fun g hg=>⟨(g5 g hg).1,(hnew (.rw j i) g ⟨R0,h1⟩ (by simp [blkOf,g1,hg])).1⟩⟩
   have hids:∀ q∈R0.ids,q<is.length:=by
    intro q hq
    cases h1 with
    | row hl=>
     have:=List.all_eq_true.1 (hid1 _ _ hl).2 q hq
     simp only [zl] at this;omega
    | fam hl _=>simp at hq
   refine (qou (ι:=nm0 is) (n:=is.length) (fun hne=>qot hrows h1 hne) (fun i j hi hj h=>qye hd hi hj h) hids).1 ?_
   have hsel:((mp.back0 mp' is).pull (nm0 is)).sel R0.ids=mp'.sel R0.ids:=by
    unfold Mp.sel
    congr 1
    funext r i
    by_cases hr':r∈R0.ids
    ·rw [zb hr',zb hr']
     exact (hblkN r (hids r hr')).2 i
    ·rw [za hr',za hr']
   rw [hsel]
   exact g4
  ·exact (hm.mb r i R h1).keep hr hle (by simp [Mp.back0,hi]) (fun g hg=>hkeep (.rw r i) g ⟨R,h1⟩ hi hg)
 ·rcases hcase p hp' with ⟨p0,h0,rfl⟩|⟨h0,hi0⟩
  ·rw [hblk1 p0 h0] at hgp
   rcases hcase q hq' with ⟨q0,k0,rfl⟩|⟨k0,ki0⟩
   ·rw [hblk1 q0 k0] at hgq
    rw [hm'.inj p0 q0 g h0 k0 hgp hgq]
   ·rw [hblk0 q ki0] at hgq
    exfalso
    rcases (hnew p0 g h0 hgp).2 with h|h
    ·have:=(hm.home k0 hgq).1;omega
    ·exact hframe q g k0 ki0 hgq h
  ·rw [hblk0 p hi0] at hgp
   rcases hcase q hq' with ⟨q0,k0,rfl⟩|⟨k0,ki0⟩
   ·rw [hblk1 q0 k0] at hgq
    exfalso
    rcases (hnew q0 g k0 hgq).2 with h|h
    ·have:=(hm.home h0 hgp).1;omega
    ·exact hframe p g h0 hi0 hgp h
   ·rw [hblk0 q ki0] at hgq
    exact hm.inj p q g h0 k0 hgp hgq
 ·have hinv:inv0 is y=none:=by
   cases hi:inv0 is y with
   | none=>rfl
   | some j=>
    exfalso
    obtain ⟨hyj,hj⟩:=qgo hi
    have hmem:y∈is:=by rw [← hyj];unfold nm0;simp [List.getD,hj]
    cases hk:look st y with
    | none=>exact hin y hmem hk
    | some x=>exact hm.ids y x hk hy
  simp only [Mp.back0,hinv]
  exact hm.fresh y hy
 ·rw [qfv hd hl1] at hx
  cases hi:inv0 is y with
  | none=>rw [hi] at hx;exact hm.ids y x hx
  | some j=>
   obtain ⟨hyj,hj⟩:=qgo hi
   have hmem:y∈is:=by rw [← hyj];unfold nm0;simp [List.getD,hj]
   cases hk:look st y with
   | none=>exact absurd hk (hin y hmem)
   | some x=>exact hm.ids y x hk
 ·rw [qfv hd hl1] at hl
  cases hin:inv0 is r with
  | none=>
   rw [hin] at hl
   simp only [Mp.back0,hin]
   exact hm.out _ _ _ _ _ _ _ hl i hi
  | some j=>
   rw [hin] at hl
   obtain ⟨o,ho,he⟩:=Option.map_eq_some_iff.1 hl
   cases o with
   | box=>simp [SO.ren] at he
   | row=>simp [SO.ren] at he
   | ro=>simp [SO.ren] at he
   | fam e0 sz0 cnt0 ep0 len0 f0=>
    simp only [SO.ren,SO.fam.injEq] at he
    obtain ⟨rfl,rfl,rfl,rfl,rfl,rfl⟩:=he
    simp only [Mp.back0,hin]
    exact hm'.out _ _ _ _ _ _ _ ho i hi
 ·rw [qfv hd hl1] at hl
  cases hin:inv0 is r with
  | none=>
   rw [hin] at hl
   obtain ⟨v,h1,h2⟩:=hm.ro _ _ _ _ _ hl
   exact ⟨v,by simp only [Mp.back0,hin];exact h1,h2.mono hr (Mp.le.refl _)⟩
  | some j=>
   rw [hin] at hl
   obtain ⟨o,ho,he⟩:=Option.map_eq_some_iff.1 hl
   cases o with
   | box=>simp [SO.ren] at he
   | row=>simp [SO.ren] at he
   | fam=>simp [SO.ren] at he
   | ro sz0 ep0 n0 f0=>
    simp only [SO.ren,SO.ro.injEq] at he
    obtain ⟨rfl,rfl,rfl,rfl⟩:=he
    obtain ⟨v,h1,h2⟩:=hm'.ro _ _ _ _ _ ho
    exact ⟨v,by simp only [Mp.back0,hin];exact h1,h2⟩
end Go.Sx
end
