/- Some texts of the library, one behind the other. -/
import Derived.Test.YtkhdldncbmkidaaY30
import Derived.Deep.LoopGhost
import Derived.Orders
import Derived.Lib.Bytealg
import Derived.Laws.Externs
import Derived.Below
import Derived.ChangeSame
import Derived.OpenShut
import Derived.ChangeMaps5
import Derived.Deep.Slices
import Derived.WideKeyArgs
import Derived.LoopN
set_option linter.unusedSimpArgs false
set_option linter.unusedVariables false
section
namespace Go.Sx
open Go Go.RowKit
variable {rd:Rd} {mp:Mp} {st:List (Nat × SO)} {nx:Nat} {w:World} {s:ASt} {a:Act} {c:Ctx}
def MemR (rd:Rd) (w:World):Prop:=(∀ g o v,rd g o=some v→w.cell? ⟨g,o,none⟩=some v)∧(∀ g o v,rd g o=some v→v.oneCell'=true)∧TabR rd w
theorem Mem.memR (h:Mem c rd mp st nx w):MemR rd w:=⟨h.rdw,h.rd1,h.tabR⟩
def Con (P:Program) (f:FuncId) (args:List AV) (res:AV):Prop:=
 ∀ rd w vs,MemR rd w→RelL rd Mp.none args vs→Invokes P f vs w (fun v w'=>
  ∃ rd',Rel rd' Mp.none res v∧Rd.le rd rd'∧MemR rd' w'∧(∀ g o v,rd' g o=some v→rd g o=some v∨w.heap.size≤g)∧Below w.heap.size w w') (fun _ _=>False)
open Classical in
noncomputable def frzRd (rd:Rd) (mp:Mp) (st:List (Nat × SO)) (w:World):Rd:=fun g o=>
 if rd g o≠none then rd g o
 else if ∃ p,There st p∧blkOf mp p=some g then (match w.cell? ⟨g,o,none⟩ with|some v=>if v.oneCell'=true then some v else none|none=>none) else none
theorem qid:Rd.le rd (frzRd rd mp st w):=by
 intro g o v h
 simp only [frzRd]
 rw [za (by rw [h];simp)]
 exact h
theorem qtd (hm:Mem c rd mp st nx w) {p:Pl} (hp:There st p) {g o:Nat} {v:Value} (hg:blkOf mp p=some g) (hc:w.cell? ⟨g,o,none⟩=some v) (h1:v.oneCell'=true):frzRd rd mp st w g o=some v:=by
 have:=(hm.home hp hg).2.1 o
 simp only [frzRd]
 rw [ze (by rw [this];simp),za ⟨p,hp,hg⟩,hc]
 simp [h1]
theorem qoo {g o:Nat} {u:Value} (h:frzRd rd mp st w g o=some u):rd g o=some u∨(w.cell? ⟨g,o,none⟩=some u∧u.oneCell'=true∧∃ p,There st p∧blkOf mp p=some g):=by
 simp only [frzRd] at h
 split at h
 ·exact .inl h
 ·split at h
  ·rename_i hex
   split at h
   ·rename_i v hv
    split at h
    ·rename_i h1
     cases h
     exact .inr ⟨hv,h1,hex⟩
    ·cases h
   ·cases h
  ·cases h
theorem qte (hm:Mem c rd mp st nx w):(∀ g o v,frzRd rd mp st w g o=some v→w.cell? ⟨g,o,none⟩=some v)∧(∀ g o v,frzRd rd mp st w g o=some v→v.oneCell'=true):=by
 refine ⟨fun g o v h=>?_,fun g o v h=>?_⟩
 ·rcases qoo h with h|⟨h,_⟩
  ·exact hm.rdw _ _ _ h
  ·exact h
 ·rcases qoo h with h|⟨_,h,_⟩
  ·exact hm.rd1 _ _ _ h
  ·exact h
theorem qop (hm:Mem c rd mp st nx w):MemR (frzRd rd mp st w) w:=
 ⟨(qte hm).1,(qte hm).2,hm.tabR.step qid (fun _ _=>rfl)⟩
theorem qtf {x:AV} {v:Value} (h:Rel rd mp x v):Rel (frzRd rd mp st w) Mp.none (bif x.pure1 then x else .any) v:=by
 cases hp:x.pure1 with
 | true=>exact (h.pure1 hp).mono qid (Mp.le.refl _)
 | false=>exact .any _ _
theorem qoq (hm:Mem c rd mp st nx w):∀ (n:Nat) (x:AV) (v:Value),qcy st n x→Rel rd mp x v→Rel (frzRd rd mp st w) Mp.none (frzC st n x) v:=by
 intro n
 induction n with
 | zero=>
  intro x v _ h
  have:frzC st 0 x=bif x.pure1 then x else .any:=by cases x <;> rfl
  rw [this]
  exact qtf h
 | succ n ih=>
  intro x v hok h
  cases x with
  | own r i e m=>
   simp only [frzC]
   split
   ·rename_i ob R hl
    simp only [qcy,hl] at hok
    obtain ⟨hob,hn,hdeep⟩:=hok
    obtain ⟨xs,hv,hown,hf,hxs,hsep⟩:=qcc hm hl hob h hn
    obtain ⟨_,hn2⟩:=hn
    subst hn2
    have hth:There st (.rw r i):=⟨R,qfm hl hob⟩
    rcases hown.2 with ⟨rfl,h0⟩|⟨g,lo,cap,cur,rfl,hh,hnc,_⟩
    ·rw [h0];exact .slc0 _ _ _ _ _
    ·by_cases h0:R.n=0
     ·rw [h0];exact .slc0 _ _ _ _ _
     ·have hg:blkOf mp (.rw r i)=some g:=by simp [blkOf,hv,Value.ownBlock]
      have hcell:∀ k j,k<R.n→j<R.sz→∃ u,w.cell? ⟨g,lo+(k * R.sz+j),none⟩=some u∧u.oneCell'=true:=by
       intro k j hk hj
       obtain ⟨u,hu,h1,_⟩:=hxs k j _ hk (zb (by rw [hf k hk];exact hj))
       exact ⟨u,hown.cells hu,h1⟩
      have mk:∀ F:Nat→List AV,(∀ k,k<R.n→(F k).length=R.sz)→(∀ (k j:Nat) y,k<R.n→(F k)[j]?=some y→Rel (frzRd rd mp st w) Mp.none y ((w.cell? ⟨g,lo+(k * R.sz+j),none⟩).getD undef))→
        Rel (frzRd rd mp st w) Mp.none (.slc R.sz R.n F) (.slice (some ⟨g,lo,none⟩) R.n cap):=by
       intro F h1 h2
       refine .slc _ _ _ _ _ _ _ (fun k j=>(w.cell? ⟨g,lo+(k * R.sz+j),none⟩).getD undef) (by omega) hnc h1 (fun k j hk hj=>?_) h2
       obtain ⟨u,hu,h1⟩:=hcell k j hk hj
       rw [hu]
       exact qtd hm hth hg hu h1
      cases hids:R.ids with
      | nil=>
       refine mk _ hf (fun k j y hk hy=>?_)
       obtain ⟨u,hu,h1,hr⟩:=hxs k j y hk hy
       rw [hown.cells hu,Option.getD_some]
       rw [hids,Mp.sel_nil] at hr
       exact hr.mono qid (Mp.le.refl _)
      | cons q qs=>
       simp only [hids] at hdeep
       refine mk _ (fun k hk=>by rw [xq];exact hf k hk) (fun k j y hk hy=>?_)
       rw [zm] at hy
       obtain ⟨y',hy',rfl⟩:=Option.map_eq_some_iff.1 hy
       obtain ⟨u,hu,h1,hr⟩:=hxs k j y' hk hy'
       rw [hown.cells hu,Option.getD_some]
       exact ih y' u (qdj (hdeep k hk) j y' hy') (hr.mono (Rd.le.refl _) (Mp.sel_le _ _))
   ·rename_i hnone
    split
    ·rename_i sz ep n' f hl
     simp only [qcy,hnone,hl] at hok
     obtain ⟨rfl,rfl,rfl⟩:=hok
     obtain ⟨v',h1,h2⟩:=hm.ro _ _ _ _ _ hl
     obtain ⟨vr,er,nr,g1,_,_,g4⟩:=qki h
     rw [h1] at g1;cases g1
     rw [g4 rfl rfl]
     exact h2.mono qid (Mp.le.refl _)
    ·exact .any _ _
  | ptr b o=>
   simp only [frzC]
   split
   ·rename_i ty cs hl
    simp only [qcy,hl] at hok
    cases hty:Nat.beq ty mapTy with
    | true=>exact .any _ _
    | false=>
    rw [hty] at hok
    simp only [cond_false] at hok ⊢
    obtain ⟨⟨hone,hob⟩,hdeep⟩:=hok
    obtain ⟨g,hg,rfl⟩:=qeq h
    obtain ⟨g',vs,h1,h2,h3,h4,h5,h6⟩:=hm.bx b ty cs hl
    have h2:=h2.cells (qeh hty)
    rw [hg] at h1;cases h1
    have key:∀ (j:Nat) y,(cs.drop o)[j]?=some y→∃ u,vs[o+j]?=some u∧Rel rd mp y u∧w.cell? ⟨g,o+j,none⟩=some u∧u.oneCell'=true:=by
     intro j y hy
     have hy':=hy
     rw [xa] at hy'
     have hlt:o+j<vs.size:=by rw [h3];exact (List.getElem?_eq_some_iff.1 hy').1
     have hr:=h4 _ y vs[o+j] hy' (by simp [hlt])
     refine ⟨vs[o+j],by simp [hlt],hr,?_,?_⟩
     ·rw [cell_of_row w g (o+j) vs ty (0,0) h2];simp [hlt]
     ·have hmem:=zp hy
      exact qkk hm hr (List.all_eq_true.1 hone y hmem) (qof hob y hmem)
    refine .rptr _ _ _ _ (fun j=>(vs[o+j]?).getD undef) (fun j x hx=>?_) (fun j x hx=>?_)
    ·rw [zm] at hx
     obtain ⟨y,hy,rfl⟩:=Option.map_eq_some_iff.1 hx
     obtain ⟨u,hu,_,hc,ho⟩:=key j y hy
     rw [hu]
     exact qtd hm (p:=.bx b) ⟨ty,cs,hl⟩ hg hc ho
    ·rw [zm] at hx
     obtain ⟨y,hy,rfl⟩:=Option.map_eq_some_iff.1 hx
     obtain ⟨u,hu,hr,_,_⟩:=key j y hy
     rw [hu]
     exact ih y u (qdj hdeep j y hy) hr
   ·exact .any _ _
  | fn f cs=>
   cases h with
   | fn _ _ _ vs hs he=>
    refine .fn _ _ _ _ (by simpa using hs) (fun j x v hx hv=>?_)
    rw [zm] at hx
    obtain ⟨y,hy,rfl⟩:=Option.map_eq_some_iff.1 hx
    exact ih y v (qdj hok j y hy) (he j y v hy hv)
  | _=>exact qtf h
theorem qkp (hm:Mem c rd mp st nx w) (x:AV) (v:Value) (hok:qgm st x) (h:Rel rd mp x v):Rel (frzRd rd mp st w) Mp.none (frzB st x) v:=by
 by_cases hag:∃ cs,x=.agg cs
 ·obtain ⟨cs,rfl⟩:=hag
  obtain ⟨vs,rfl,hs,he⟩:=qgp h
  simp only [frzB]
  refine .agg _ _ _ (by simpa using hs) (fun j x v hx hv=>?_)
  rw [zm] at hx
  obtain ⟨y,hy,rfl⟩:=Option.map_eq_some_iff.1 hx
  exact qoq hm 4 y v (qdj hok j y hy) (he j y v hy hv)
 ·by_cases hcn:∃ b y,x=.cnd b y
  ·obtain ⟨b,y,rfl⟩:=hcn
   cases h with
   | cnd _ _ _ _ h1 h0=>exact .cnd _ _ _ _ (fun hb=>qoq hm 4 y v (hok hb) (h1 hb)) h0
  ·have h1:frzB st x=frzC st 4 x:=by
    cases x with
    | agg cs=>exact absurd ⟨cs,rfl⟩ hag
    | cnd b y=>exact absurd ⟨b,y,rfl⟩ hcn
    | _=>rfl
   have h2:qcy st 4 x:=by
    cases x with
    | agg cs=>exact absurd ⟨cs,rfl⟩ hag
    | cnd b y=>exact absurd ⟨b,y,rfl⟩ hcn
    | _=>exact hok
   rw [h1]
   exact qoq hm 4 x v h2 h
theorem jbl (hm:Mem c rd mp st nx w) (x:AV) (v:Value) (hok:qrx st x) (h:Rel rd mp x v):Rel (frzRd rd mp st w) Mp.none (frzV st x) v:=by
 by_cases ht:∃ vs,x=.tup vs
 ·obtain ⟨xs,rfl⟩:=ht
  obtain ⟨vs,rfl,hs,he⟩:=qsd h
  simp only [frzV]
  refine .tup _ _ _ (by simpa using hs) (fun j x v hx hv=>?_)
  rw [zm] at hx
  obtain ⟨y,hy,rfl⟩:=Option.map_eq_some_iff.1 hx
  exact qkp hm y v (qdj hok j y hy) (he j y v hy hv)
 ·have h1:frzV st x=frzB st x:=by
   cases x with
   | tup vs=>exact absurd ⟨vs,rfl⟩ ht
   | _=>rfl
  have h2:qgm st x:=by
   cases x with
   | tup vs=>exact absurd ⟨vs,rfl⟩ ht
   | _=>exact hok
  rw [h1]
  exact qkp hm x v h2 h
def Le (x y:AV):Prop:=∀ rd mp v,Rel rd mp x v→Rel rd mp y v
theorem Le.refl (x:AV):Le x x:=fun _ _ _ h=>h
theorem Le.trans {x y z:AV} (h:Le x y) (k:Le y z):Le x z:=fun rd mp v r=>k rd mp v (h rd mp v r)
theorem Le.any (x:AV):Le x .any:=fun _ _ _ _=>.any _ _
theorem Le.of_eq {x y:AV} (h:x=y):Le x y:=h ▸ Le.refl x
theorem Le.nils (sz:Nat) (f:Nat→List AV):Le .nils (.slc sz 0 f):=fun _ _ _ h=>by cases h;exact .slc0 _ _ _ _ _
theorem Le.cnd {b:Bool} {x:AV} (h:b=true):Le (.cnd b x) x:=fun _ _ _ r=>by cases r with|cnd _ _ _ _ k _=>exact k h
theorem Le.slc {sz n m:Nat} {f g:Nat→List AV} (hn:n=m) (h:∀ i,i<n→f i=g i):Le (.slc sz n f) (.slc sz m g):=by
 subst hn
 intro rd mp v r
 cases r with
 | slc0=>exact .slc0 _ _ _ _ _
 | slc _ _ _ _ blk off cap val h0 hc hs hr he=>exact .slc _ _ _ _ _ _ _ val h0 hc (fun i hi=>h i hi ▸ hs i hi) hr (fun i j x hi hx=>he i j x hi (by rw [h i hi];exact hx))
def LeL:List AV→List AV→Prop
 | [],[]=>True
 | x::xs,y::ys=>Le x y∧LeL xs ys
 | _,_=>False
theorem LeL.refl:∀ xs:List AV,LeL xs xs
 | []=>trivial
 | x::xs=>⟨Le.refl x,LeL.refl xs⟩
theorem LeL.of_eq {xs ys:List AV} (h:xs=ys):LeL xs ys:=h ▸ LeL.refl xs
theorem LeL.get:∀ {xs ys:List AV},LeL xs ys→xs.length=ys.length∧∀ (j:Nat) x y,xs[j]?=some x→ys[j]?=some y→Le x y
 | [],[],_=>⟨rfl,fun j x y hx=>by simp at hx⟩
 | x::xs,y::ys,h=>by
  obtain ⟨h1,h2⟩:=LeL.get h.2
  refine ⟨by simp [h1],fun j u v hu hv=>?_⟩
  cases j with
  | zero=>simp at hu hv;subst hu;subst hv;exact h.1
  | succ j=>simp at hu hv;exact h2 j u v hu hv
 | [],_::_,h=>absurd h id
 | _::_,[],h=>absurd h id
theorem Le.slcL {sz n m:Nat} {f g:Nat→List AV} (hn:n=m) (h:∀ i,i<n→LeL (f i) (g i)):Le (.slc sz n f) (.slc sz m g):=by
 subst hn
 unfold Le
 intro rd mp v r
 cases r with
 | slc0=>exact .slc0 _ _ _ _ _
 | slc _ _ _ _ blk off cap val h0 hc hs hr he=>
  refine .slc _ _ _ _ _ _ _ val h0 hc (fun i hi=>by rw [← (h i hi).get.1];exact hs i hi) hr (fun i j x hi hx=>?_)
  have hj:j<(f i).length:=by rw [(h i hi).get.1];exact (List.getElem?_eq_some_iff.1 hx).1
  exact (h i hi).get.2 j _ x (zb hj) hx _ _ _ (he i j _ hi (zb hj))
theorem Le.agg {xs ys:List AV} (h:LeL xs ys):Le (.agg xs) (.agg ys):=by
 intro rd mp v r
 cases r with
 | agg _ _ vs hs he=>
  refine .agg _ _ _ (by rw [hs,h.get.1]) (fun j y v hy hv=>?_)
  have hj:j<xs.length:=by rw [h.get.1];exact (List.getElem?_eq_some_iff.1 hy).1
  exact h.get.2 j xs[j] y (zb hj) hy _ _ _ (he j xs[j] v (zb hj) hv)
theorem Le.tup {xs ys:List AV} (h:LeL xs ys):Le (.tup xs) (.tup ys):=by
 intro rd mp v r
 cases r with
 | tup _ _ vs hs he=>
  refine .tup _ _ _ (by rw [hs,h.get.1]) (fun j y v hy hv=>?_)
  have hj:j<xs.length:=by rw [h.get.1];exact (List.getElem?_eq_some_iff.1 hy).1
  exact h.get.2 j xs[j] y (zb hj) hy _ _ _ (he j xs[j] v (zb hj) hv)
theorem RelL.le {xs ys:List AV} {vs:Array Value} (h:RelL rd mp xs vs) (hl:LeL xs ys):RelL rd mp ys vs:=by
 refine ⟨by rw [h.1,hl.get.1],fun j y v hy hv=>?_⟩
 have hj:j<xs.length:=by rw [hl.get.1];exact (List.getElem?_eq_some_iff.1 hy).1
 exact hl.get.2 j xs[j] y (zb hj) hy _ _ _ (h.2 j xs[j] v (zb hj) hv)
theorem RelL.pure {xs:List AV} {vs:Array Value} (h:RelL rd mp xs vs) (hp:xs.all AV.pure=true) (mp':Mp):RelL rd mp' xs vs:=
 ⟨h.1,fun j x v hx hv=>(h.2 j x v hx hv).pure (List.all_eq_true.1 hp x (zp hx))⟩
theorem qci {E:Env} {dst:Option Nat} (hd:qz E dst=true) {a:Act} (hsz:a.tmps.size=E.fn.ntmps):∀ d,dst=some d→d<a.tmps.size:=by
 intro d hd'
 rw [hd'] at hd
 simp only [qz,zaz] at hd
 rw [hsz];exact hd
theorem qfo (sl:List (Nat × AV)) (dst:Option Nat) (v:AV) (st:List (Nat × SO)) (nx:Nat):(ASt.mk (jx sl dst v) st nx)=(ASt.mk sl st nx).put dst v:=by cases dst <;> rfl
theorem jl {sl:List (Nat × AV)} {E:Env} {B:Nat→ASt→Prop} {f:FuncId} {args:List AV} {dst:Option Nat} {full:Array Oper} {rest:List Oper} {k:List Itm} (hT:∀ t,E.T t=tab E.P t) (n:Nat) {args':List AV} {res:AV} (hc:Con E.P f args' res)
  (hp:args'.all AV.pure=true) (hl:LeL args args') (hd:qz E dst=true) (h:qt sl dst (fun sl'=>exec E B n (.ops full rest::k) ⟨sl',st,nx⟩) res):qaa E B f args dst full rest k ⟨sl,st,nx⟩:=by
 rw [ja,qfo] at h
 unfold qaa
 intro rd mp a w vs hs hrd hsz hargs
 refine (hc rd w vs hs.mem.memR ((hargs.le hl).pure hp _)).mono ?_ (fun _ _ h=>False.elim h)
 rintro v w' ⟨rd',h1,h2,h3,h4,h5⟩
 have hm':=hs.mem.more h5 h2 h3.1 h3.2.1 h4
 exact qba hT n _ _ h rd' mp _ w' (hs.put h2 (Mp.le.refl _) hm' (h1.mono (Rd.le.refl _) (Mp.none_le _)) (qci hd hsz)) (hrd.step h2 (Mp.le.refl _)) (by rw [qch];exact hsz)
theorem qbg {sl:List (Nat × AV)} {E:Env} {B:Nat→ASt→Prop} {g:Bool} {f:FuncId} {args:List AV} {dst:Option Nat} {full:Array Oper} {rest:List Oper} {k:List Itm} (hT:∀ t,E.T t=tab E.P t) (n:Nat) {args':List AV} {res:AV} (hc:g=true→Con E.P f args' res)
  (hp:args'.all AV.pure=true) (hl:g=true→LeL args args') (hd:qz E dst=true) (h:qt sl dst (fun sl'=>exec E B n (.ops full rest::k) ⟨sl',st,nx⟩) (.cnd g res)):qcx E B g f args dst full rest k ⟨sl,st,nx⟩:=by
 rw [ja,qfo] at h
 unfold qcx
 refine ⟨fun hg=>?_,fun hg rd mp a w hs hrd hsz=>?_⟩
 ·unfold qaa
  intro rd mp a w vs hs hrd hsz hargs
  refine (hc hg rd w vs hs.mem.memR ((hargs.le (hl hg)).pure hp _)).mono ?_ (fun _ _ h=>False.elim h)
  rintro v w' ⟨rd',h1,h2,h3,h4,h5⟩
  have hm':=hs.mem.more h5 h2 h3.1 h3.2.1 h4
  exact qba hT n _ _ h rd' mp _ w' (hs.put h2 (Mp.le.refl _) hm' (.cnd _ _ _ _ (fun _=>h1.mono (Rd.le.refl _) (Mp.none_le _)) (fun hf=>by rw [hg] at hf;cases hf)) (qci hd hsz)) (hrd.step h2 (Mp.le.refl _)) (by rw [qch];exact hsz)
 ·exact qba hT n _ _ h rd mp _ w (hs.put (Rd.le.refl _) (Mp.le.refl _) hs.mem (.cnd _ _ _ _ (fun ht=>by rw [hg] at ht;cases ht) (fun _=>rfl)) (qci hd hsz)) hrd (by rw [qch];exact hsz)
def AV.flat1:AV→Bool
 | .int .. | .bool .. | .str .. | .any | .nils | .nilp=>true
 | _=>false
def AV.flatA:AV→Bool
 | .agg vs=>vs.all AV.flat1
 | x=>x.flat1
def AV.flat:AV→Bool
 | .tup vs=>vs.all AV.flatA
 | x=>x.flatA
theorem Rel.flat1 {rd':Rd} {mp':Mp} {x:AV} {v:Value} (h:Rel rd mp x v) (hf:x.flat1=true):Rel rd' mp' x v:=by
 cases h <;> first
  | (simp [AV.flat1] at hf;done)
  | constructor
theorem Rel.flatA {rd':Rd} {mp':Mp} {x:AV} {v:Value} (h:Rel rd mp x v) (hf:x.flatA=true):Rel rd' mp' x v:=by
 have h':=h
 cases h with
 | agg _ cs vs hs he=>
  refine .agg _ _ _ hs (fun j x v hx hv=>(he j x v hx hv).flat1 ?_)
  simp only [AV.flatA,zak] at hf
  exact hf x (zp hx)
 | _=>exact h'.flat1 hf
theorem Rel.flat {rd':Rd} {mp':Mp} {x:AV} {v:Value} (h:Rel rd mp x v) (hf:x.flat=true):Rel rd' mp' x v:=by
 have h':=h
 cases h with
 | tup _ cs vs hs he=>
  refine .tup _ _ _ hs (fun j x v hx hv=>(he j x v hx hv).flatA ?_)
  simp only [AV.flat,zak] at hf
  exact hf x (zp hx)
 | _=>exact h'.flatA hf
theorem qg {sl:List (Nat × AV)} {E:Env} {B:Nat→ASt→Prop} {f:FuncId} {args:List AV} {dst:Option Nat} {full:Array Oper} {rest:List Oper} {k:List Itm} (hT:∀ t,E.T t=tab E.P t) (n:Nat) {args':List AV} {res:AV} (hc:Con E.P f args' res)
  (hok:allP (qgm st) args) (hl:LeL (args.map (frzB st)) args') (hf:res.flat=true) (hd:qz E dst=true) (h:qt sl dst (fun sl'=>exec E B n (.ops full rest::k) ⟨sl',st,nx⟩) res):qaa E B f args dst full rest k ⟨sl,st,nx⟩:=by
 rw [ja,qfo] at h
 unfold qaa
 intro rd mp a w vs hs hrd hsz hargs
 have hargs':RelL (frzRd rd mp st w) Mp.none (args.map (frzB st)) vs:=by
  refine ⟨by rw [hargs.1,xq],fun j x v hx hv=>?_⟩
  rw [zm] at hx
  obtain ⟨y,hy,rfl⟩:=Option.map_eq_some_iff.1 hx
  exact qkp hs.mem y v (qdj hok j y hy) (hargs.2 j y v hy hv)
 refine (hc _ w vs (qop hs.mem) (hargs'.le hl)).mono ?_ (fun _ _ h=>False.elim h)
 rintro v w' ⟨rd',h1,h2,h3,h4,h5⟩
 exact qba hT n _ _ h rd mp _ w' (hs.put (Rd.le.refl _) (Mp.le.refl _) (hs.mem.below h5) (h1.flat hf) (qci hd hsz)) hrd (by rw [qch];exact hsz)
theorem qi {sl:List (Nat × AV)} {E:Env} {B:Nat→ASt→Prop} {g:Bool} {f:FuncId} {args:List AV} {dst:Option Nat} {full:Array Oper} {rest:List Oper} {k:List Itm} (hT:∀ t,E.T t=tab E.P t) (n:Nat) {args':List AV} {res:AV} (hc:g=true→Con E.P f args' res)
  (hok:g=true→allP (qgm st) args) (hl:g=true→LeL (args.map (frzB st)) args') (hf:res.flat=true) (hd:qz E dst=true) (h:qt sl dst (fun sl'=>exec E B n (.ops full rest::k) ⟨sl',st,nx⟩) (.cnd g res)):qcx E B g f args dst full rest k ⟨sl,st,nx⟩:=by
 rw [ja,qfo] at h
 unfold qcx
 refine ⟨fun hg=>?_,fun hg rd mp a w hs hrd hsz=>?_⟩
 ·unfold qaa
  intro rd mp a w vs hs hrd hsz hargs
  have hargs':RelL (frzRd rd mp st w) Mp.none (args.map (frzB st)) vs:=by
   refine ⟨by rw [hargs.1,xq],fun j x v hx hv=>?_⟩
   rw [zm] at hx
   obtain ⟨y,hy,rfl⟩:=Option.map_eq_some_iff.1 hx
   exact qkp hs.mem y v (qdj (hok hg) j y hy) (hargs.2 j y v hy hv)
  refine (hc hg _ w vs (qop hs.mem) (hargs'.le (hl hg))).mono ?_ (fun _ _ h=>False.elim h)
  rintro v w' ⟨rd',h1,h2,h3,h4,h5⟩
  exact qba hT n _ _ h rd mp _ w' (hs.put (Rd.le.refl _) (Mp.le.refl _) (hs.mem.below h5) (.cnd _ _ _ _ (fun _=>h1.flat hf) (fun hf=>by rw [hg] at hf;cases hf)) (qci hd hsz)) hrd (by rw [qch];exact hsz)
 ·exact qba hT n _ _ h rd mp _ w (hs.put (Rd.le.refl _) (Mp.le.refl _) hs.mem (.cnd _ _ _ _ (fun ht=>by rw [hg] at ht;cases ht) (fun _=>rfl)) (qci hd hsz)) hrd (by rw [qch];exact hsz)
def qdk:Nat→List AV→List (Nat × AV)
 | _,[]=>[]
 | i,x::xs=>(i,x)::qdk (i+1) xs
theorem jbm (xs:List AV):∀ (i t:Nat),look (qdk i xs) t=if i≤t then xs[t - i]? else none:=by
 induction xs with
 | nil=>intro i t;simp [qdk,look]
 | cons x xs ih=>
  intro i t
  simp only [qdk,qh,ih]
  by_cases h1:i=t
  ·subst h1;simp
  ·by_cases h2:i≤t
   ·rw [ze h1,za (by omega),za h2,show t - i=(t - (i+1))+1 by omega,zan]
   ·rw [ze h1,ze (by omega),ze h2]
def conR (res:AV):List (Nat × SO)→Nat→AV→Prop:=fun st _ v=>Ob (qrx st v) (frc (frzV st v) fun v=>Le v res)
theorem qtg {fn:Func} {args:List AV} {vs:Array Value} (hn:args.length≤fn.ntmps) (hargs:RelL rd mp args vs) :
  (∀ t,Rel rd mp ((look (qdk 0 args) t).getD .any) ((vs++Array.replicate (fn.ntmps - vs.size) undef).getD t undef))∧(vs++Array.replicate (fn.ntmps - vs.size) undef).size=fn.ntmps:=by
 refine ⟨fun t=>?_,by simp [hargs.1];omega⟩
 simp only [jbm,zv,if_true,zbr]
 by_cases ht:t<args.length
 ·have hv:t<vs.size:=by rw [hargs.1];exact ht
  have:(vs++Array.replicate (fn.ntmps - vs.size) undef).getD t undef=vs[t]:=by
   rw [zai,zay hv];simp [hv]
  rw [zb ht,this]
  exact hargs.2 t _ _ (zb ht) (by simp [hv])
 ·rw [zy (by omega)]
  exact .any _ _
theorem jbn {P:Program} {T:Nat→TI} {C:Cfg} {f:FuncId} {fn:Func} {body:Code} {args:List AV} {res:AV} (n:Nat) (hT:∀ t,T t=tab P t) (hf:P.funcs[f]?=some fn) (hb:fn.body=some body)
  (hname : (fn.name == "runtime.NumGoroutine") = false) (hn : Nat.ble args.length fn.ntmps = true)
  (h:∀ (c:Ctx) (rdb:Rd),exec { P:=P,T:=T,C:=C,fn:=fn,c:=c,rdb:=rdb,mpb:=Mp.none,nxb:=0,R:=conR res,X:=fun _ _ _=>False } (fun _ _=>False) n [.code body] ⟨qdk 0 args,[],0⟩):Con P f args res:=by
 intro rd w vs hm hargs
 have hn':args.length≤fn.ntmps:=Nat.le_of_ble_eq_true hn
 have hname' : fn.name ≠ "runtime.NumGoroutine" := by simpa using hname
 refine .inl ⟨by simp [callFunc,hf,hname',hb,mark],?_⟩
 let c:Ctx:=⟨w,rd,fun _=>False,stdF⟩
 have hok:=qba (E:={ P:=P,T:=T,C:=C,fn:=fn,c:=c,rdb:=rd,mpb:=Mp.none,nxb:=0,R:=conR res,X:=fun _ _ _=>False }) (B:=fun _ _=>False) hT n _ _ (h c rd)
 obtain ⟨hsl,hsz⟩:=qtg (fn:=fn) hn' hargs
 have hsr:SR c rd Mp.none ⟨qdk 0 args,[],0⟩ ⟨vs++Array.replicate (fn.ntmps - vs.size) undef,[]⟩ w:=
  ⟨hsl,rfl,⟨hm.1,hm.2.1,fun g o v h=>.inl h,⟨rfl,rfl,rfl,zj _,fun _ _ _=>rfl⟩,fun b ty cs hx=>by simp [look] at hx,fun r i R hR=>by cases hR <;> simp_all [look],
   fun p q g hp=>by cases p <;> (obtain ⟨_,hx⟩:=hp;first|(obtain ⟨_,hx⟩:=hx;simp [look] at hx;done)|(cases hx <;> simp_all [look])),fun _ _=>⟨rfl,fun _=>rfl⟩,fun i x hx=>by simp [look] at hx,fun r e sz cnt ep len f hx=>by simp [look] at hx,fun r sz ep n f hx=>by simp [look] at hx,⟨hm.2.2,fun _ _ h=>h⟩,Rd.le.refl _⟩⟩
 have hwp:=hok rd Mp.none _ w hsr ⟨Rd.le.refl _,Mp.le.refl _,fun _ _=>⟨rfl,fun _=>rfl⟩,rfl⟩ hsz
 refine (calls_of_wp hf hb hwp).mono fun e w' he=>?_
 match e,he with
 | .returned v,he=>
  obtain ⟨x,rd',mp',st,nx,h1,h2,h3,h4⟩:=he
  have hfin:=Ob.right h1
  rw [jr] at hfin
  refine .inl ⟨v,rfl,frzRd rd' mp' st w',hfin _ _ _ (jbl h3 x v (Ob.left h1) h2),h4.rd.trans qid,qop h3,fun g o v hv=>?_,⟨h3.fr.os,h3.fr.tape,h3.fr.output,h3.fr.size,fun k hk=>h3.fr.block k hk (fun h=>h)⟩⟩
  rcases qoo hv with hv|⟨_,_,p,hp,hg⟩
  ·rcases h3.rdn g o v hv with h|h|h
   ·exact .inl h
   ·exact .inr h
   ·exact False.elim h
  ·rcases (h3.home hp hg).2.2 with h|h
   ·exact .inr h
   ·exact False.elim h
 | .panicked [⟨v,false,false⟩],he=>obtain ⟨x,rd',mp',st,nx,h1,_⟩:=he;exact False.elim h1
def SubSl (s:ASt):List (Nat × AV)→Prop
 | []=>True
 | (t,x)::r=>Le (s.get t) x∧SubSl s r
def SoLe:SO→SO→Prop
 | .box t cs,.box t' cs'=>t=t'∧LeL cs cs'
 | .row ids e sz ep n f,.row ids' e' sz' ep' n' f'=>(ids=ids'∧e=e'∧sz=sz')∧ep=ep'∧n=n'∧∀ i,i<n→LeL (f i) (f' i)
 | .fam e sz cnt ep len f,.fam e' sz' cnt' ep' len' f'=>(e=e'∧sz=sz')∧cnt=cnt'∧(∀ i,i<cnt→ep i=ep' i∧len i=len' i)∧∀ i k,i<cnt→k<len i→LeL (f i k) (f' i k)
 | .ro sz ep n f,.ro sz' ep' n' f'=>sz=sz'∧ep=ep'∧n=n'∧∀ i,i<n→f i=f' i
 | _,_=>False
def SubSt (st:List (Nat × SO)):List (Nat × SO)→Prop
 | []=>True
 | (i,x)::r=>(match look st i with|some y=>SoLe y x|none=>False)∧SubSt st r
def Sub (s s':ASt):Prop:=SubSl s s'.sl∧SubSt s.st s'.st
def ASt.closed (nxb:Nat) (s:ASt):Bool:=Nat.ble nxb s.nx && (s.sl.all fun p=>p.2.lt s.nx) && stLt s.nx s.st
theorem SubSl.get:∀ {l:List (Nat × AV)},SubSl s l→∀ t,Le (s.get t) ((look l t).getD .any)
 | [],_,t=>Le.any _
 | (k,x)::r,h,t=>by
  rw [qh]
  by_cases hk:k=t
  ·subst hk;rw [za rfl];exact h.1
  ·rw [ze hk];exact SubSl.get h.2 t
theorem SubSt.get:∀ {l:List (Nat × SO)},SubSt st l→∀ i x,look l i=some x→∃ y,look st i=some y∧SoLe y x
 | [],_,i,x,h=>by simp [look] at h
 | (k,z)::r,h,i,x,hl=>by
  rw [qh] at hl
  by_cases hk:k=i
  ·subst hk
   rw [za rfl] at hl
   cases hl
   have h1:=h.1
   split at h1
   ·rename_i y hy;exact ⟨y,hy,h1⟩
   ·exact absurd h1 id
  ·rw [ze hk] at hl;exact SubSt.get h.2 i x hl
theorem MOk.le {r i:Nat} {R R':RowV} (h:MOk c rd mp w r i R) (hids:R.ids=R'.ids) (he:R.e=R'.e) (hsz:R.sz=R'.sz) (hep:R.ep=R'.ep) (hn:R.n=R'.n) (hf:∀ k,k<R.n→LeL (R.f k) (R'.f k)):MOk c rd mp w r i R':=by
 obtain ⟨ids,e,sz,ep,n,f⟩:=R
 obtain ⟨ids',e',sz',ep',n',f'⟩:=R'
 simp only at hids he hsz hep hn hf
 subst hids he hsz hep hn
 obtain ⟨v,xs,h1,h2,h3,h4,h5⟩:=h
 refine ⟨v,xs,h1,h2,fun k hk=>by rw [← (hf k hk).get.1];exact h3 k hk,fun k j y hk hy=>?_,h5⟩
 have hj:j<(f k).length:=by rw [(hf k hk).get.1];exact (List.getElem?_eq_some_iff.1 hy).1
 obtain ⟨u,hu,h1',h2'⟩:=h4 k j _ hk (zb hj)
 exact ⟨u,hu,h1',(hf k hk).get.2 j _ y (zb hj) hy _ _ _ h2'⟩
theorem SubSt.box {l:List (Nat × SO)} (h:SubSt st l) {b:Nat} {ty:TypeId} {cs:List AV} (hl:look l b=some (.box ty cs)):∃ cs',look st b=some (.box ty cs')∧LeL cs' cs:=by
 obtain ⟨y,hy,hle⟩:=h.get b _ hl
 cases y with
 | box t c=>obtain ⟨rfl,hc⟩:=hle;exact ⟨c,hy,hc⟩
 | row=>exact False.elim hle
 | fam=>exact False.elim hle
 | ro=>exact False.elim hle
theorem SubSt.mem {l:List (Nat × SO)} (h:SubSt st l) {r i:Nat} {R:RowV} (hR:IsMem l r i R):∃ R',IsMem st r i R'∧R'.ids=R.ids∧R'.e=R.e∧R'.sz=R.sz∧R'.ep=R.ep∧R'.n=R.n∧∀ k,k<R'.n→LeL (R'.f k) (R.f k):=by
 cases hR with
 | row hl=>
  obtain ⟨y,hy,hle⟩:=h.get _ _ hl
  cases y with
  | box=>exact False.elim hle
  | row ids e sz ep n f=>obtain ⟨⟨rfl,rfl,rfl⟩,rfl,rfl,hf⟩:=hle;exact ⟨_,.row hy,rfl,rfl,rfl,rfl,rfl,hf⟩
  | fam=>exact False.elim hle
  | ro=>exact False.elim hle
 | fam hl hi=>
  obtain ⟨y,hy,hle⟩:=h.get _ _ hl
  cases y with
  | box=>exact False.elim hle
  | row=>exact False.elim hle
  | ro=>exact False.elim hle
  | fam e sz cnt ep len f=>
   obtain ⟨⟨rfl,rfl⟩,rfl,h1,hf⟩:=hle
   exact ⟨_,.fam hy hi,rfl,rfl,rfl,(h1 _ hi).1,(h1 _ hi).2,fun k hk=>hf _ k hi hk⟩
theorem Mem.sub (hm:Mem c rd mp st nx w) (hstd:c.fre=stdF) {st':List (Nat × SO)} {nx':Nat} (hs:SubSt st st') (hn:stLt nx' st'=true):Mem c rd (mp.restrict nx') st' nx' w:=by
 have old:∀ p,There st' p→There st p:=by
  intro p hp
  cases p with
  | bx b=>obtain ⟨ty,cs,hl⟩:=hp;obtain ⟨cs',h,_⟩:=hs.box hl;exact ⟨ty,cs',h⟩
  | rw r i=>obtain ⟨R,hR⟩:=hp;obtain ⟨R',h,_⟩:=hs.mem hR;exact ⟨R',h⟩
 have hbig:Mem c rd mp st' (max nx nx') w:=by
  refine ⟨hm.rdw,hm.rd1,hm.rdn,hm.fr,fun b ty cs hl=>?_,fun r i R hR=>?_,fun p q g hp hq=>hm.inj p q g (old p hp) (old q hq),fun i hi=>hm.fresh i (by rw [hstd] at hi ⊢;simp only [stdF] at hi ⊢;omega),fun i x hx=>?_,fun r e sz cnt ep len f hl i hi=>?_,fun r sz ep n f hl=>?_,hm.tab⟩
  ·obtain ⟨cs',hl',hle⟩:=hs.box hl
   obtain ⟨g,vs,h1,h2,h3,h4,h5,h6⟩:=hm.bx b ty cs' hl'
   refine ⟨g,vs,h1,h2,by rw [h3,hle.get.1],fun j z v hz hv=>?_,h5,h6⟩
   have hj:j<cs'.length:=by rw [hle.get.1];exact (List.getElem?_eq_some_iff.1 hz).1
   exact hle.get.2 j cs'[j] z (zb hj) hz _ _ _ (h4 j cs'[j] v (zb hj) hv)
  ·obtain ⟨R',hR',h1,h2,h3,h4,h5,h6⟩:=hs.mem hR
   exact (hm.mb r i R' hR').le h1 h2 h3 h4 h5 h6
  ·obtain ⟨y,hy,_⟩:=hs.get i x hx
   have:=hm.ids i y hy
   rw [hstd] at this ⊢
   simp only [stdF] at this ⊢
   omega
  ·obtain ⟨y,hy,hle⟩:=hs.get _ _ hl
   cases y with
   | box=>exact False.elim hle
   | row=>exact False.elim hle
   | ro=>exact False.elim hle
   | fam e0 sz0 cnt0 ep0 len0 f0=>
    obtain ⟨_,rfl,_⟩:=hle
    exact hm.out _ _ _ _ _ _ _ hy i hi
  ·obtain ⟨y,hy,hle⟩:=hs.get _ _ hl
   cases y with
   | box=>exact False.elim hle
   | row=>exact False.elim hle
   | fam=>exact False.elim hle
   | ro sz0 ep0 n0 f0=>
    obtain ⟨rfl,rfl,rfl,hf⟩:=hle
    obtain ⟨v,h1,h2⟩:=hm.ro _ _ _ _ _ hy
    exact ⟨v,h1,Le.slc rfl hf _ _ _ h2⟩
 exact hbig.restrict hstd hn
theorem SR.sub {nxb:Nat} {s':ASt} (h:SR c rd mp s a w) (hstd:c.fre=stdF) (hs:Sub s s') (hc:s'.closed nxb=true):SR c rd (mp.restrict s'.nx) s' a w:=by
 simp only [ASt.closed,zh] at hc
 obtain ⟨⟨_,hc1⟩,hc2⟩:=hc
 refine ⟨fun t=>?_,h.defers,h.mem.sub hstd hs.2 hc2⟩
 have hr:=hs.1.get t rd mp _ (h.slots t)
 simp only [ASt.get]
 cases hl:look s'.sl t with
 | none=>exact .any _ _
 | some x=>
  rw [hl] at hr
  exact hr.lt (List.all_eq_true.1 hc1 _ (qby hl))
theorem Base.sub {E:Env} {s':ASt} (h:Base E rd mp) (hc:s'.closed E.nxb=true):Base E rd (mp.restrict s'.nx):=by
 simp only [ASt.closed,zh,zx] at hc
 exact ⟨h.rd,Mp.le_restrict h.mp (fun i hi=>h.low i (by omega)),h.low,h.std⟩
theorem jbo {P:Program} {o:Oper} {a:Act} {K K':Act→World→Prop} {Q Q':Exit→Act→World→Prop} (hk:∀ a w,K a w→K' a w) (hq:∀ e a w,Q e a w→Q' e a w) (r:Result Next) (h:o.upon P a K Q r):o.upon P a K' Q' r:=by
 unfold Oper.upon at h ⊢
 split at h
 ·exact hk _ _ h
 ·exact hk _ _ h
 ·exact hk _ _ h
 ·refine Calls.mono h fun e w' he=>?_
  cases e with
  | returned v=>exact hk _ _ he
  | panicked ch=>exact hq _ _ _ he
  | outgrown=>obtain ⟨a,w,h⟩:=he;exact ⟨a,w,hq _ _ _ h⟩
 ·exact Rows.mono h fun v w' hv=>hk _ _ hv
 ·exact hq _ _ _ h
 ·exact False.elim h
theorem jbp {P:Program} {full:Array Oper} {Q Q':Exit→Act→World→Prop} (hq:∀ e a w,Q e a w→Q' e a w):∀ (l:List Oper) (a:Act) (w:World),wpList P full Q l a w→wpList P full Q' l a w:=by
 intro l
 induction l with
 | nil=>intro a w h;exact hq _ _ _ h
 | cons o l ih=>
  intro a w h
  unfold wpList at h ⊢
  split at h
  ·rename_i hw
   rw [za hw]
   rcases h with h|⟨h1,a',w',h2⟩
   ·exact .inl (jbo ih hq _ h)
   ·exact .inr ⟨h1,a',w',hq _ _ _ h2⟩
  ·rename_i hw
   rw [ze hw]
   exact ih _ _ h
def qfp (m:Nat):List Itm→Bool
 | []=>true
 | .mark n::k=>!Nat.beq n m && qfp m k
 | _::k=>qfp m k
theorem qth {E:Env} {B B':Nat→ASt→Prop} (lvl:Nat) (hB:∀ n s,n≠lvl→B' n s→B n s):∀ (k:List Itm),qfp lvl k=true→∀ e a w,QK E B' k e a w→QK E B k e a w:=by
 intro k
 induction k with
 | nil=>intro _ e a w h;exact h
 | cons i k ih=>
  intro hm e a w h
  cases i with
  | code x=>
   have ih':=ih hm
   cases e with
   | normal=>simp only [QK] at h ⊢;exact wp_mono h ih'
   | _=>exact ih' _ _ _ h
  | blk id=>
   have ih':=ih hm
   cases e with
   | exit id'=>
    simp only [QK] at h ⊢
    split at h
    ·rename_i he;rw [za he];exact ih' _ _ _ h
    ·rename_i he;rw [ze he];exact ih' _ _ _ h
   | _=>exact ih' _ _ _ h
  | mark n=>
   simp only [qfp,zh,xr] at hm
   have ih':=ih hm.2
   cases e with
   | normal=>
    simp only [QK] at h ⊢
    obtain ⟨h1,rd,mp,s,h2,h3,h4⟩:=h
    exact ⟨h1,rd,mp,s,h2,h3,hB n s (fun e=>by rw [e] at hm;simp at hm) h4⟩
   | _=>exact ih' _ _ _ h
  | ops full l=>
   have ih':=ih hm
   cases e with
   | normal=>simp only [QK] at h ⊢;exact jbp ih' _ _ _ h
   | _=>exact ih' _ _ _ h
theorem Le.rel {x y:AV} (h:Le x y) {rd:Rd} {mp:Mp} {v:Value} (r:Rel rd mp x v):Rel rd mp y v:=h _ _ _ r
attribute [irreducible] Le
end Go.Sx
end
section
namespace Go.Sx
open Go Go.RowKit
structure Stp where
 v:AV
 wr:Bool
 st:List (Nat × SO)
 nx:Nat
 ob:Prop
def qbs (P:Program) (f:FuncId) (args:List AV) (res:AV):Prop:=∃ args',Con P f args' res∧args'.all AV.pure=true∧LeL args args'
def jf (E:Env) (full:Array Oper) (s:ASt) (o:Oper) (res:AV):Option Stp:=
 match qz E o.dst with
 | false=>none
 | true=>
  match o.guard with
  | none=>
   match aop E.T E.C s o.dst o.op with
   | .ok ob v=>some ⟨v,false,s.st,s.nx,obT ob⟩
   | .mem ob v st nx=>some ⟨v,true,st,nx,obT ob⟩
   | .call f args=>some ⟨res,false,s.st,s.nx,qbs E.P f args res⟩
   | .bad=>none
  | some (j,want)=>
   match (qan full j).map s.get with
   | some x=>
    match qbn want x with
    | some g=>
     match aop E.T E.C s o.dst o.op with
     | .ok ob v=>some ⟨.cnd g (strip s.st v),false,s.st,s.nx,g=true→obT (andO (qm s.st v) ob)⟩
     | .call f args=>some ⟨.cnd g res,false,s.st,s.nx,g=true→qbs E.P f args res⟩
     | _=>none
    | none=>none
   | none=>none
def jg:Op→Bool
 | .call c=>match c.callee with | .value _=>true|_=>false
 | _=>false
def after (s:ASt) (o:Oper) (p:Stp):ASt:=⟨jx s.sl o.dst p.v,bif p.wr then p.st else s.st,bif p.wr then p.nx else s.nx⟩
def stateAt:List (Oper × Stp)→Nat→(Nat→Bool)→ASt→ASt
 | [],_,_,s=>s
 | (o,p)::r,i,S,s=>stateAt r (i+1) S (bif S i then after s o p else s)
def reads (full:Array Oper) (o:Oper):List Nat:=
 (o.op.operands.toList.filterMap fun | .tmp t=>some t|_=>none)++(match o.guard with|some (j,_)=>(qan full j).toList|none=>[])
def anc (full:Array Oper):Nat→Nat→List Nat
 | 0,_=>[]
 | n+1,i=>
  match full.toList[i]? with
  | some o=>(o.after.toList.filter (Region.binds .any)).flatMap fun e=>e.on::anc full n e.on
  | none=>[]
def hits (full:Array Oper) (x y:Oper):Bool:=
 match x.dst with
 | some d=>(reads full y).contains d || y.dst == some d
 | none=>false
theorem qor (s:ASt) (o:Oper) (p:Stp) (t:Nat):(after s o p).get t=if o.dst=some t then p.v else s.get t:=by
 cases hd:o.dst with
 | none=>simp [after,jx,hd,ASt.get]
 | some d=>
  simp only [after,jx,hd,ASt.get,qh,Option.some.injEq]
  split <;> rfl
theorem qos (t:Nat):∀ (L:List (Oper × Stp)) (i:Nat) (S S':Nat→Bool) (s s':ASt),s.get t=s'.get t→
  (∀ (j:Nat) x,L[j]?=some x→x.1.dst=some t→S (i+j)=S' (i+j))→(stateAt L i S s).get t=(stateAt L i S' s').get t:=by
 intro L
 induction L with
 | nil=>intro i S S' s s' h _;exact h
 | cons x r ih=>
  intro i S S' s s' h hw
  obtain ⟨o,p⟩:=x
  simp only [stateAt]
  refine ih (i+1) S S' _ _ ?_ (fun j x hx hd=>by have:=hw (j+1) x (by simpa using hx) hd;rwa [show i+(j+1)=i+1+j by omega] at this)
  by_cases hd:o.dst=some t
  ·have h0:=hw 0 (o,p) rfl hd
   simp only [zac] at h0
   rw [h0]
   cases S' i
   ·exact h
   ·simp [qor,hd]
  ·cases S i <;> cases S' i <;> simp [qor,hd,h]
theorem qie:∀ (L:List (Oper × Stp)) (i:Nat) (S S':Nat→Bool) (s s':ASt),s.st=s'.st→s.nx=s'.nx→
  (∀ (j:Nat) x,L[j]?=some x→x.2.wr=true→S (i+j)=S' (i+j))→(stateAt L i S s).st=(stateAt L i S' s').st∧(stateAt L i S s).nx=(stateAt L i S' s').nx:=by
 intro L
 induction L with
 | nil=>intro i S S' s s' h h' _;exact ⟨h,h'⟩
 | cons x r ih=>
  intro i S S' s s' h h' hw
  obtain ⟨o,p⟩:=x
  simp only [stateAt]
  refine ih (i+1) S S' _ _ ?_ ?_ (fun j x hx hd=>by have:=hw (j+1) x (by simpa using hx) hd;rwa [show i+(j+1)=i+1+j by omega] at this)
  ·cases hp:p.wr with
   | true=>
    have h0:=hw 0 (o,p) rfl hp
    simp only [zac] at h0
    rw [h0]
    cases S' i
    ·exact h
    ·simp [after,hp]
   | false=>cases S i <;> cases S' i <;> simp [after,hp,h]
  ·cases hp:p.wr with
   | true=>
    have h0:=hw 0 (o,p) rfl hp
    simp only [zac] at h0
    rw [h0]
    cases S' i
    ·exact h'
    ·simp [after,hp]
   | false=>cases S i <;> cases S' i <;> simp [after,hp,h']
theorem qgt {T:Nat→TI} {C:Cfg} {s s':ASt} (d:Option Nat) (op:Op) (h:∀ x∈op.operands,ev s x=ev s' x) (hst:s.st=s'.st) (hnx:s.nx=s'.nx):aop T C s d op=aop T C s' d op:=by
 obtain ⟨sl,st,nx⟩:=s
 obtain ⟨sl',st',nx'⟩:=s'
 simp only at hst hnx
 subst hst hnx
 cases op with
 | move x=>simp only [aop];rw [h x (by simp [Op.operands])]
 | assign x=>simp only [aop];rw [h x (by simp [Op.operands])];rfl
 | pick x y z=>
  have hx:=h x (by simp [Op.operands])
  have hy:=h y (by simp [Op.operands])
  have hz:=h z (by simp [Op.operands])
  simp only [aop,hx,hy,hz]
 | alloc e=>rfl
 | box e x=>simp only [aop];rw [h x (by simp [Op.operands])];rfl
 | build t ps=>
  have hm:∀ p∈ps.toList,ev ⟨sl,st,nx⟩ p.2=ev ⟨sl',st,nx⟩ p.2:=fun p hp=>h p.2 (by simp only [Op.operands];simp;exact ⟨p.1,by simpa using hp⟩)
  have e1:(ps.toList.map fun p=>ev ⟨sl,st,nx⟩ p.2)=ps.toList.map fun p=>ev ⟨sl',st,nx⟩ p.2:=xj hm
  have e2:(ps.toList.map fun p=>(p.1,strip st (ev ⟨sl,st,nx⟩ p.2)))=ps.toList.map fun p=>(p.1,strip st (ev ⟨sl',st,nx⟩ p.2)):=xj fun p hp=>by rw [hm p hp]
  simp only [aop,e1,e2]
 | buildSlice t n ps=>
  have hm:∀ p∈ps.toList,ev ⟨sl,st,nx⟩ p.2=ev ⟨sl',st,nx⟩ p.2:=fun p hp=>h p.2 (by simp only [Op.operands];simp;exact ⟨p.1,by simpa using hp⟩)
  have e1:(ps.toList.map fun p=>ev ⟨sl,st,nx⟩ p.2)=ps.toList.map fun p=>ev ⟨sl',st,nx⟩ p.2:=xj hm
  have e2:(ps.toList.map fun p=>(p.1,strip st (ev ⟨sl,st,nx⟩ p.2)))=ps.toList.map fun p=>(p.1,strip st (ev ⟨sl',st,nx⟩ p.2)):=xj fun p hp=>by rw [hm p hp]
  simp only [aop,e1,e2]
  rfl
 | load t x=>simp only [aop];rw [h x (by simp [Op.operands])]
 | store t x y=>simp only [aop];rw [h x (by simp [Op.operands]),h y (by simp [Op.operands])]
 | nilCheck x=>simp only [aop];rw [h x (by simp [Op.operands])]
 | binOp op t x y yt=>simp only [aop];rw [h x (by simp [Op.operands]),h y (by simp [Op.operands])]
 | unOp op t x=>simp only [aop];rw [h x (by simp [Op.operands])]
 | convert src t x=>simp only [aop];rw [h x (by simp [Op.operands])]
 | makeFunc fn first captured=>
  have hf:∀ x∈first.toList,ev ⟨sl,st,nx⟩ x=ev ⟨sl',st,nx⟩ x:=fun x hx=>h x (by simp only [Op.operands];simp;left;simpa using hx)
  simp only [aop]
  rw [xj fun x hx=>h x (by simp only [Op.operands];simp;right;simpa using hx)]
  generalize first.toList=l at hf
  cases l with
  | nil=>cases fn <;> rfl
  | cons x l=>
   cases l with
   | nil=>
    cases fn with
    | func f=>
     show qfl f (ev ⟨sl,st,nx⟩ x) _=qfl f (ev ⟨sl',st,nx⟩ x) _
     rw [hf x (by simp)]
    | _=>rfl
   | cons y l=>cases fn <;> rfl
 | makeSlice t x y=>simp only [aop];rw [h x (by simp [Op.operands]),h y (by simp [Op.operands])];rfl
 | slice t x lo hi mx=>
  simp only [aop]
  rw [h x (by simp [Op.operands])]
  have e1:∀ y∈lo,ev ⟨sl,st,nx⟩ y=ev ⟨sl',st,nx⟩ y:=fun y hy=>h y (by cases lo <;> simp at hy;subst hy;simp [Op.operands])
  have e2:∀ y∈hi,ev ⟨sl,st,nx⟩ y=ev ⟨sl',st,nx⟩ y:=fun y hy=>h y (by cases hi <;> simp at hy;subst hy;simp [Op.operands])
  have e3:∀ y∈mx,ev ⟨sl,st,nx⟩ y=ev ⟨sl',st,nx⟩ y:=fun y hy=>h y (by cases mx <;> simp at hy;subst hy;simp [Op.operands])
  have f:∀ (l:Option Operand),(∀ y∈l,ev ⟨sl,st,nx⟩ y=ev ⟨sl',st,nx⟩ y)→l.map (ev ⟨sl,st,nx⟩)=l.map (ev ⟨sl',st,nx⟩)∧(l.map fun y=>strip st (ev ⟨sl,st,nx⟩ y))=l.map fun y=>strip st (ev ⟨sl',st,nx⟩ y):=by
   intro l hl
   cases l with
   | none=>exact ⟨rfl,rfl⟩
   | some y=>simp [hl y (by simp)]
  rw [(f lo e1).1,(f lo e1).2,(f hi e2).1,(f hi e2).2,(f mx e3).2]
  rfl
 | fieldAddr t x i=>simp only [aop];rw [h x (by simp [Op.operands])]
 | field t x i=>simp only [aop];rw [h x (by simp [Op.operands])]
 | indexAddr t x i=>simp only [aop];rw [h x (by simp [Op.operands]),h i (by simp [Op.operands])]
 | index t x i=>simp only [aop];rw [h x (by simp [Op.operands]),h i (by simp [Op.operands])]
 | extract x i=>simp only [aop];rw [h x (by simp [Op.operands])]
 | makeMap t r=>
  have e:r.map (ev ⟨sl,st,nx⟩)=r.map (ev ⟨sl',st,nx⟩):=by
   cases r with
   | none=>rfl
   | some y=>simp [h y (by simp [Op.operands])]
  simp only [aop]
  rw [e]
  rfl
 | lookup t x y cok=>simp only [aop];rw [h x (by simp [Op.operands]),h y (by simp [Op.operands])]
 | mapUpdate t x y z=>simp only [aop];rw [h x (by simp [Op.operands]),h y (by simp [Op.operands])]
 | call cl=>
  obtain ⟨callee,⟨args⟩,ats⟩:=cl
  have ha:∀ x∈args,ev ⟨sl,st,nx⟩ x=ev ⟨sl',st,nx⟩ x:=fun x hx=>h x (by simp only [Op.operands,Call.operands];simp;exact .inr hx)
  have hm:args.map (ev ⟨sl,st,nx⟩)=args.map (ev ⟨sl',st,nx⟩):=xj ha
  simp only [aop]
  cases callee with
  | builtin b=>
   have hm2:(args.map fun x=>strip st (ev ⟨sl,st,nx⟩ x))=args.map fun x=>strip st (ev ⟨sl',st,nx⟩ x):=xj fun x hx=>by rw [ha x hx]
   simp only [hm,hm2]
   rfl
  | value f=>
   simp only [hm]
   rw [h f (by simp [Op.operands,Call.operands])]
  | invoke r m=>rfl
 | _=>rfl
theorem qer {full:Array Oper} {s s':ASt} {o:Oper} (h:∀ t∈reads full o,s.get t=s'.get t):∀ x∈o.op.operands,ev s x=ev s' x:=by
 intro x hx
 cases x with
 | tmp t=>exact h t (by simp only [reads,xt,List.mem_filterMap];left;exact ⟨.tmp t,by simpa using hx,rfl⟩)
 | _=>rfl
theorem jbq {E:Env} {full:Array Oper} {s s':ASt} {o:Oper} (res:AV) (h:∀ t∈reads full o,s.get t=s'.get t) (hst:s.st=s'.st) (hnx:s.nx=s'.nx):jf E full s o res=jf E full s' o res:=by
 unfold jf
 rw [qgt o.dst o.op (qer h) hst hnx,hst,hnx]
 cases hg:o.guard with
 | none=>rfl
 | some jw=>
  obtain ⟨j,want⟩:=jw
  cases hs:qan full j with
  | none=>simp only [hs];rfl
  | some d=>
   have:s.get d=s'.get d:=h d (by simp [reads,hg,hs])
   simp only [hs,xu,this]
theorem qti {E:Env} (hT:∀ t,E.T t=tab E.P t) {full:Array Oper} {s:ASt} {o:Oper} {res:AV} {p:Stp} (hp:jf E full s o res=some p) (hob:p.ob) {rd:Rd} {mp:Mp} {a:Act} {w:World} (hs:SR E.c rd mp s a w) (hsup:Sup E.c s.nx) (hsz:a.tmps.size=E.fn.ntmps)
  {K:Act→World→Prop} {Q:Exit→Act→World→Prop} (hK:∀ x w' rd' mp',Rd.le rd rd'→Mp.le mp mp'→Mem E.c rd' mp' (bif p.wr then p.st else s.st) (bif p.wr then p.nx else s.nx) w'→Rel rd' mp' p.v x→(∀ d,o.dst=some d→d<a.tmps.size)→K (a.put o.dst x) w') :
  if Region.wanted o (yielded full a.tmps) then o.wp E.P a w K Q∨(o.asks E.P a w∧LetsOut Q) else K (a.put o.dst undef) w:=by
 unfold jf at hp
 cases hd:qz E o.dst with
 | false=>rw [hd] at hp;cases hp
 | true=>
  rw [hd] at hp
  simp only at hp
  have hdst:∀ d,o.dst=some d→d<a.tmps.size:=by
   intro d hd'
   rw [hd'] at hd
   simp only [qz,zaz] at hd
   rw [hsz]
   exact hd
  have hgood:=qgr (C:=E.C) hT hs hsup o
  have callK:∀ {f args res},qbs E.P f args res→aop E.T E.C s o.dst o.op=.call f args→(∀ x w' rd',Rd.le rd rd'→Mem E.c rd' mp s.st s.nx w'→Rel rd' mp res x→K (a.put o.dst x) w')→o.wp E.P a w K Q:=by
   rintro f args res ⟨args',hc,hpure,hle⟩ hr hK'
   rw [hr] at hgood
   obtain ⟨vs,g1,g2⟩:=hgood
   have hcon:=hc rd w vs hs.mem.memR ((g2.le hle).pure hpure _)
   have step:∀ v w',(∃ rd',Rel rd' Mp.none res v∧Rd.le rd rd'∧MemR rd' w'∧(∀ g o v,rd' g o=some v→rd g o=some v∨w.heap.size≤g)∧Below w.heap.size w w')→K (a.put o.dst v) w':=by
    rintro v w' ⟨rd',h1,h2,h3,h4,h5⟩
    exact hK' v w' rd' h2 (hs.mem.more h5 h2 h3.1 h3.2.1 h4) (h1.mono (Rd.le.refl _) (Mp.none_le _))
   unfold Oper.wp
   rw [g1]
   rcases hcon with ⟨h1,h2⟩|⟨v,w',h1,h2⟩
   ·rw [h1,Oper.upon_enter]
    refine h2.mono fun e w' he=>?_
    rcases he with ⟨v,he,hv⟩|⟨_,_,hv⟩
    ·subst he;exact step v w' hv
    ·exact False.elim hv
   ·rw [h1,Oper.upon_value]
    exact step v w' h2
  cases hg:o.guard with
  | none=>
   rw [hg] at hp
   simp only at hp
   rw [za (by simp [Region.wanted,hg])]
   left
   cases hr:aop E.T E.C s o.dst o.op with
   | ok ob v=>
    rw [hr] at hp hgood
    cases hp
    obtain ⟨x,w',rd',g1,g2,g3,g4⟩:=hgood hob
    unfold Oper.wp
    rw [g1,Oper.upon_value]
    exact hK x w' rd' mp g2 (Mp.le.refl _) g3 g4 hdst
   | mem ob v st' nx'=>
    rw [hr] at hp hgood
    cases hp
    obtain ⟨nn,x,w',rd',mp',g1,g2,g3,g4,g5,g6⟩:=hgood hob
    unfold Oper.wp
    rw [g1]
    rcases g2 with rfl|⟨rfl,rfl⟩
    ·rw [Oper.upon_value];exact hK x w' rd' mp' g3 g4 g5 g6 hdst
    ·rw [Oper.upon_skip];exact hK undef w' rd' mp' g3 g4 g5 g6 hdst
   | call f args=>
    rw [hr] at hp
    cases hp
    exact callK hob hr (fun x w' rd' h1 h2 h3=>hK x w' rd' mp h1 (Mp.le.refl _) h2 h3 hdst)
   | bad=>rw [hr] at hp;cases hp
  | some jw=>
   obtain ⟨j,want⟩:=jw
   rw [hg] at hp
   simp only at hp
   cases hsl:qan full j with
   | none=>rw [hsl] at hp;cases hp
   | some d=>
    rw [hsl] at hp
    simp only [xu] at hp
    cases hgb:qbn want (s.get d) with
    | none=>rw [hgb] at hp;cases hp
    | some g=>
     rw [hgb] at hp
     simp only at hp
     have hwant:=qon hs hsl hgb o hg
     rw [hwant]
     cases hr:aop E.T E.C s o.dst o.op with
     | ok ob v=>
      rw [hr] at hp hgood
      cases hp
      cases g with
      | false=>exact hK undef w rd mp (Rd.le.refl _) (Mp.le.refl _) hs.mem (.cnd _ _ _ _ (fun h=>by cases h) (fun _=>rfl)) hdst
      | true=>
       obtain ⟨hob1,hob2⟩:=(qv _ _).1 (hob rfl)
       obtain ⟨x,w',rd',g1,g2,g3,g4⟩:=hgood hob2
       left
       unfold Oper.wp
       rw [g1,Oper.upon_value]
       exact hK x w' rd' mp g2 (Mp.le.refl _) g3 (.cnd _ _ _ _ (fun _=>qcg g3 g4 hob1) (fun h=>by cases h)) hdst
     | call f args=>
      rw [hr] at hp
      cases hp
      cases g with
      | false=>exact hK undef w rd mp (Rd.le.refl _) (Mp.le.refl _) hs.mem (.cnd _ _ _ _ (fun h=>by cases h) (fun _=>rfl)) hdst
      | true=>
       left
       exact callK (hob rfl) hr (fun x w' rd' h1 h2 h3=>hK x w' rd' mp h1 (Mp.le.refl _) h2 (.cnd _ _ _ _ (fun _=>h3) (fun h=>by cases h)) hdst)
     | mem ob v st' nx'=>rw [hr] at hp;cases hp
     | bad=>rw [hr] at hp;cases hp
theorem qgu (full:Array Oper) (S:Nat→Bool) (hS:∀ j o,full.toList[j]?=some o→S j=true→∀ e∈o.after,Region.binds .any e=true→S e.on=true) :
  ∀ (n j:Nat),(∀ o,full.toList[j]?=some o→∀ e∈o.after,Region.binds .any e=true→S e.on=true)→∀ i∈anc full n j,S i=true:=by
 intro n
 induction n with
 | zero=>intro j _ i hi;simp [anc] at hi
 | succ n ih=>
  intro j hj i hi
  simp only [anc] at hi
  split at hi
  ·rename_i o ho
   simp only [List.mem_flatMap,zbj,List.mem_cons] at hi
   obtain ⟨e,⟨he,hb⟩,hi⟩:=hi
   have hon:=hj o ho e (by simpa using he) hb
   rcases hi with rfl|hi
   ·exact hon
   ·exact ih e.on (fun o' ho' e' he' hb'=>hS e.on o' ho' hon e' he' hb') i hi
  ·simp at hi
theorem qif (n j:Nat):(Array.replicate n false).getD j false=false:=by
 rw [zai,Array.getElem?_replicate]
 split <;> rfl
theorem qbh {n:Int} (h1:-9223372036854775808≤n) (h2:n≤9223372036854775807):inR .i64 n:=by
 simp [inR,IntKind.min,IntKind.max,IntKind.signed,IntKind.bits];omega
def encL {α:Type} (enc:α→List AV) (d:α) (l:List α):Nat→List AV:=fun i=>enc (l.getD i d)
def slcL {α:Type} (enc:α→List AV) (d:α) (sz:Nat) (l:List α):AV:=.slc sz l.length (encL enc d l)
theorem jbr {sl:List (Nat × AV)} {st:List (Nat × SO)} {nx:Nat} {E:Env} {B:Nat→ASt→Prop} {f:FuncId} {args:List AV} {dst:Option Nat} {full:Array Oper} {rest:List Oper} {k:List Itm} (hT:∀ t,E.T t=tab E.P t) (n:Nat) {res:AV} (hc:Con E.P f args res)
  (hp:args.all AV.pure=true) (hd:qz E dst=true) (h:qt sl dst (fun sl'=>exec E B n (.ops full rest::k) ⟨sl',st,nx⟩) res):qaa E B f args dst full rest k ⟨sl,st,nx⟩:=
 jl hT n hc hp (LeL.refl _) hd h
def unc:AV→AV
 | .cnd _ v=>v
 | v=>v
def qes (g:Bool):List AV→Prop
 | []=>True
 | .cnd b _::xs=>b=g∧qes g xs
 | _::xs=>qes g xs
theorem qig {g:Bool} (hg:g=true):∀ (xs:List AV),qes g xs→LeL xs (xs.map unc)
 | [],_=>trivial
 | x::xs,h=>by
  cases x with
  | cnd b v=>exact ⟨Le.cnd (h.1.trans hg),qig hg xs h.2⟩
  | _=>exact ⟨Le.refl _,qig hg xs h⟩
theorem jbs {sl:List (Nat × AV)} {st:List (Nat × SO)} {nx:Nat} {E:Env} {B:Nat→ASt→Prop} {g:Bool} {f:FuncId} {args:List AV} {dst:Option Nat} {full:Array Oper} {rest:List Oper} {k:List Itm} (hT:∀ t,E.T t=tab E.P t) (n:Nat) {res:AV} (hc:g=true→Con E.P f (args.map unc) res)
  (hp:(args.map unc).all AV.pure=true) (hgs:qes g args) (hd:qz E dst=true) (h:qt sl dst (fun sl'=>exec E B n (.ops full rest::k) ⟨sl',st,nx⟩) (.cnd g res)):qcx E B g f args dst full rest k ⟨sl,st,nx⟩:=
 qbg hT n hc hp (fun hg=>qig hg _ hgs) hd h
end Go.Sx
end
section
namespace Go.Sx
open Go Go.RowKit Go.WideShapes Go.ChangeShapes
theorem calls_of_con {P : Program} {f : FuncId} {fn : Func} {body : Code} {args : List AV} {res : AV} (hf : P.funcs[f]? = some fn) (hb : fn.body = some body) (hname : (fn.name == "runtime.NumGoroutine") = false) (h : Con P f args res)
  {rd:Rd} {w:World} {vs:Array Value} (hm:MemR rd w) (ha:RelL rd Mp.none args vs) :
  Calls P f vs w fun e w'=>∃ v,e=.returned v∧(∃ rd',Rel rd' Mp.none res v)∧Below w.heap.size w w':=by
 have hname' : fn.name ≠ "runtime.NumGoroutine" := by simpa using hname
 have he:(callFunc f vs).run P w=.ok (.enter f vs) w:=by simp [callFunc,hf,hname',hb,mark]
 rcases h rd w vs hm ha with ⟨_,h1⟩|⟨v,w',h1,_⟩
 ·refine h1.mono fun e w' he=>?_
  rcases he with ⟨v,hv,rd',h1,_,_,_,h2⟩|⟨_,_,h⟩
  ·exact ⟨v,hv,⟨rd',h1⟩,h2⟩
  ·exact False.elim h
 ·rw [he] at h1;cases h1
section
variable {H:Type} {enc:TypeId × Value→H} {P:Program}
theorem post_of_below {f:Func} {s:ChangeSpec} {apart fresh handsOn again:Bool} {W W':World} {args:Array Value} {v:Value} {ds gs:List (DataW H)} {before pa pv:List MemPlace}
  (hW:DataW.Whole enc P f.params.toList s.vars apart W args.toList ds gs before)
  (hres:∀ (b:Nat) (sp:Nat→Bool) (hd:Bool),DataW.TrodAll enc P W' b sp hd f.resultTypes.toList (v.resultList f.resultTypes.size) (s.fn H (ds++gs)).results [])
  (hargs:∀ sp:Nat→Bool,(∀ p∈before,sp p.block=true)→DataW.TrodAll enc P W' 0 sp true f.params.toList args.toList (s.fn H (ds++gs)).args pa)
  (hvars:∀ sp:Nat→Bool,(∀ p∈before,sp p.block=true)→DataW.TrodVars enc P W' sp s.vars (s.fn H (ds++gs)).vars pv)
  (hps:before=pa++pv) (hb:Below W.heap.size W W')
  (hok:∀ (j:Nat) (t:TypeId) (r:Value),f.resultTypes[j]?=some t→(v.resultList f.resultTypes.size)[j]?=some r→Value.okWide P W' .any 0 t r) :
  s.post enc P f apart fresh handsOn again W args v W':=by
 have hlt:∀ p∈before,p.block<W.heap.size:=fun p hp=>hW.lt p hp
 have hold:∀ p∈before,(fun b=>decide (b<W.heap.size)) p.block=true:=fun p hp=>by simpa using hlt p hp
 refine ⟨ds,gs,before,[],pa,pv,hW,hres _ _ _,hargs _ hold,hvars _ hold,World.keptBut_mono (fun p hp=>⟨hp,?_⟩) (hb.frame (·∈before)),fun _=>?_⟩
 ·rw [hps,xt] at hp
  exact Or.inr hp
 ·obtain ⟨_,_,_,_,_,hz,hn⟩:=hW
  refine ⟨hok,_,_,([]++pa)++pv,⟨[]++pa,pv,trodAll_append (hargs _ (fun _ _=>rfl)) (hres _ _ _),hvars _ (fun _ _=>rfl),rfl,?_,?_⟩,?_⟩
  ·intro b off hp
   have hin:MemPlace.cell b off∈before:=by rw [hps];simpa using hp
   rw [hb.frozen (hlt _ hin)]
   exact hz b off hin
  ·intro ha
   have:=hn ha
   rw [hps] at this
   simpa using this
  ·intro p hp _
   rw [hps]
   simpa using hp
end
end Go.Sx
end
section
namespace Go.Sx
open Go Go.RowKit Go.WideShapes Go.ChangeShapes Go.Deep
def rdW (w:World):Rd:=fun b o=>(w.cell? ⟨b,o,none⟩).filter (fun v=>v.oneCell')
theorem jbt {w:World} {b o:Nat} {v:Value} (h:w.cell? ⟨b,o,none⟩=some v) (h1:v.oneCell'=true):rdW w b o=some v:=by
 unfold rdW;rw [h];simp [Option.filter,h1]
theorem memR_rdW (w:World) (ht:TabR (rdW w) w):MemR (rdW w) w:=by
 have key:∀ g o v,rdW w g o=some v→w.cell? ⟨g,o,none⟩=some v∧v.oneCell'=true:=fun g o v h=>by
  unfold rdW at h
  cases hc:w.cell? ⟨g,o,none⟩ with
  | none=>rw [hc] at h;simp at h
  | some u=>
   rw [hc] at h
   simp only [Option.filter] at h
   split at h
   ·cases h;exact ⟨rfl,by assumption⟩
   ·cases h
 exact ⟨fun g o v h=>(key g o v h).1,fun g o v h=>(key g o v h).2,ht⟩
theorem tabR_none (w:World):TabR (rdW w) w:=fun t ht=>by cases ht
section
variable {H:Type} (enc:TypeId × Value→H) (P:Program)
def Rdr (t:TypeId) (p:List AV→Prop):Prop:=∀ (w:World) (fuel:Nat) (cs:List Value) (x:DataW H × List MemPlace),DataW.trod enc P w 0 (fun _=>true) true fuel t cs=some x→
 ∃ ys,p ys∧ys.length=cs.length∧∀ (j:Nat) y v,ys[j]?=some y→cs[j]?=some v→v.oneCell'=true∧Rel (rdW w) Mp.none y v
variable {enc P}
theorem Rdr.mono {t:TypeId} {p q:List AV→Prop} (h:Rdr enc P t p) (hpq:∀ ys,p ys→q ys):Rdr enc P t q:=fun w fuel cs x hx=>by
 obtain ⟨ys,h1,h2⟩:=h w fuel cs x hx
 exact ⟨ys,hpq ys h1,h2⟩
theorem qkq {rd:Rd} {y:AV} {v:Value} (h1:v.oneCell'=true) (h2:Rel rd Mp.none y v):∀ (j:Nat) y' v',[y][j]?=some y'→[v][j]?=some v'→v'.oneCell'=true∧Rel rd Mp.none y' v'
 | 0,y',v',hy,hv=>by cases hy;cases hv;exact ⟨h1,h2⟩
 | j+1,y',v',hy,hv=>by simp at hy
theorem jbu {t:TypeId} {k:IntKind} (ht:P.underlying t=some (.int k)):Rdr enc P t (fun ys=>∃ n:Int,(Lit.int k n).wf=true∧ys=[.int k n]):=fun w fuel cs x hx=>by
 obtain ⟨n,rfl,_,hw⟩:=DataW.trod_int ht hx
 exact ⟨_,⟨n,hw,rfl⟩,rfl,qkq rfl (.int _ _ _)⟩
theorem jbv {t:TypeId} (ht:P.underlying t=some .bool):Rdr enc P t (fun ys=>∃ b:Bool,True∧ys=[.bool b]):=fun w fuel cs x hx=>by
 obtain ⟨b,rfl,_⟩:=DataW.trod_bool ht hx
 exact ⟨_,⟨b,trivial,rfl⟩,rfl,qkq rfl (.bool _ _)⟩
theorem qot {t e:TypeId} {sz:Nat} {α:Type} {en:α→List AV} {d:α} {ok:α→Prop} (ht:P.underlying t=some (.slice e)) (hc:P.cellsOf e=sz) (hs:0<sz) (hl:∀ a,(en a).length=sz)
  (h:Rdr enc P e (fun ys=>∃ a,ok a∧ys=en a)):Rdr enc P t (fun ys=>∃ l:List α,(l.length≤maxLen∧∀ a∈l,ok a)∧ys=[slcL en d sz l]):=by
 intro w fuel cs x hx
 rcases open_slice ht hx with ⟨rfl,_⟩|⟨a,len,cap,m,n,D,Pl,rfl,_,hlc,hcm,hm,_,hel⟩
 ·exact ⟨_,⟨[],⟨zv _,fun a ha=>by cases ha⟩,rfl⟩,rfl,qkq rfl (.slc0 _ _ _ _ _)⟩
 simp only [if_true] at hm
 subst hm
 haveI:Inhabited α:=⟨d⟩
 have key:∀ i,i<len→∃ a':α,ok a'∧∃ cs',w.cells? 0 (a.add (i * sz)) sz=some cs'∧∀ (j:Nat) y v,(en a')[j]?=some y→cs'[j]?=some v→v.oneCell'=true∧Rel (rdW w) Mp.none y v:=fun i hi=>by
  obtain ⟨cs',h1,h2⟩:=hel i (by omega)
  obtain ⟨ys,⟨a',h3,rfl⟩,_,h4⟩:=h w n cs' _ h2
  rw [hc] at h1
  exact ⟨a',h3,cs',h1,h4⟩
 obtain ⟨f,hf⟩:=choose_lt key
 have hL:((List.range len).map f).length=len:=by simp
 refine ⟨_,⟨(List.range len).map f,⟨by rw [hL];exact zr hlc hcm,fun b hb=>?_⟩,rfl⟩,rfl,qkq rfl ?_⟩
 ·obtain ⟨i,hi,rfl⟩:=List.mem_map.1 hb
  exact (hf i (List.mem_range.1 hi)).1
 unfold slcL
 rw [hL]
 rcases Nat.eq_zero_or_pos len with rfl|hpos
 ·exact .slc0 _ _ _ _ _
 have hcell:∀ i j,i<len→j<sz→∃ v,w.cell? (a.add (i * sz+j))=some v∧v.oneCell'=true∧∃ y,(en (f i))[j]?=some y∧Rel (rdW w) Mp.none y v:=fun i j hi hj=>by
  obtain ⟨_,cs',h1,h2⟩:=hf i hi
  obtain ⟨_,h3,h4⟩:=World.cells?_some h1
  have h5:=h4 j hj
  have h6:(en (f i))[j]?=some ((en (f i))[j]'(by rw [hl];exact hj)):=zb _
  have h7:cs'[j]?=some (cs'[j]'(by omega)):=zb _
  have h8:=h2 j _ _ h6 h7
  refine ⟨_,?_,h8.1,_,h6,h8.2⟩
  rw [← h7,← h5,add_add]
 have hspot:a.spot=none:=by
  obtain ⟨v,h1,_⟩:=hcell 0 0 hpos hs
  have h2:(a.add (0 * sz+0)).spot=none:=by
   unfold World.cell? at h1
   split at h1
   ·split at h1
    ·cases h1
    ·rename_i h;simpa using h
   ·cases h1
  obtain ⟨blk,off,spot⟩:=a
  cases spot with
  | none=>rfl
  | some k=>simp [Addr.add] at h2
 obtain ⟨blk,off,spot⟩:=a
 simp only at hspot
 subst hspot
 have hadd:∀ k,(⟨blk,off,none⟩:Addr).add k=⟨blk,off+k,none⟩:=fun k=>by
  unfold Addr.add
  split
  ·rename_i h;subst h;rfl
  ·rfl
 simp only [hadd] at hcell
 refine .slc _ _ _ _ blk off m (fun i j=>(w.cell? ⟨blk,off+(i * sz+j),none⟩).getD (.bool false)) hpos hlc (fun i hi=>?_) (fun i j hi hj=>?_) (fun i j y hi hy=>?_)
 ·exact hl _
 ·obtain ⟨v,h1,h2,_⟩:=hcell i j hi hj
  rw [h1];exact jbt h1 h2
 ·have e:encL en d ((List.range len).map f) i=en (f i):=by
   unfold encL
   rw [xk,zm,List.getElem?_range hi];rfl
  rw [e] at hy
  have hj:j<sz:=by
   have:=(List.getElem?_eq_some_iff.1 hy).1
   rw [hl] at this;exact this
  obtain ⟨v,h1,h2,y',h3,h4⟩:=hcell i j hi hj
  rw [h1]
  rw [h3] at hy;cases hy
  exact h4
theorem jbw {t:TypeId} {fs:Array Field} {q:Nat→AV→Prop} (ht:P.underlying t=some (.struct fs)) (hc:P.cellsOf t=fs.size)
  (hr:∀ i f,fs[i]?=some f→(f.offset=i∧P.cellsOf f.type=1)∧Rdr enc P f.type (fun ys=>∃ y,q i y∧ys=[y])):Rdr enc P t (fun ys=>ys.length=fs.size∧∀ i y,ys[i]?=some y→q i y):=by
 intro w fuel cs x hx
 obtain ⟨xs,n,rfl,_,hlen,hxl,hf⟩:=DataW.trod_struct ht hx
 rw [hc] at hlen
 have key:∀ i,i<fs.size→∃ y,q i y∧∀ v,cs[i]?=some v→v.oneCell'=true∧Rel (rdW w) Mp.none y v:=fun i hi=>by
  have h0:fs[i]?=some fs[i]:=zbk hi
  obtain ⟨⟨h1,h2⟩,h3⟩:=hr i _ h0
  have h4:=hf i _ h0
  rw [h1,h2,zb (by omega)] at h4
  obtain ⟨ys,⟨y,h5,rfl⟩,_,h7⟩:=h3 w n _ _ h4
  refine ⟨y,h5,fun v hv=>?_⟩
  refine h7 0 y v rfl ?_
  rw [List.getElem?_take_of_lt (by omega),xa];exact hv
 haveI:Inhabited AV:=⟨.any⟩
 obtain ⟨f,hf'⟩:=choose_lt key
 refine ⟨(List.range fs.size).map f,⟨by simp,fun i y hy=>?_⟩,by simp [hlen],fun j y v hy hv=>?_⟩
 ·rw [zm] at hy
  obtain ⟨k,hk,rfl⟩:=Option.map_eq_some_iff.1 hy
  obtain ⟨h1,rfl⟩:=List.getElem?_eq_some_iff.1 hk
  simp only [List.length_range] at h1
  rw [List.getElem_range]
  exact (hf' i h1).1
 ·rw [zm] at hy
  obtain ⟨k,hk,rfl⟩:=Option.map_eq_some_iff.1 hy
  obtain ⟨h1,rfl⟩:=List.getElem?_eq_some_iff.1 hk
  simp only [List.length_range] at h1
  rw [List.getElem_range]
  exact (hf' j h1).2 v hv
theorem jbx {t:TypeId} {α:Type} {ok:α→Prop} {en:α→AV} {W:World} {v:Value} {d:DataW H} {ps:List MemPlace} (hv:v.cells=#[v]) (h:Rdr enc P t (fun ys=>∃ a,ok a∧ys=[en a])) (hd:DataW.Trod enc P W 0 (fun _=>true) true t v d ps) :
  ∃ a,ok a∧Rel (rdW W) Mp.none (en a) v:=by
 obtain ⟨fuel,hf⟩:=hd
 rw [hv] at hf
 obtain ⟨ys,⟨a,h1,rfl⟩,_,h2⟩:=h W fuel _ _ hf
 exact ⟨a,h1,(h2 0 _ v rfl rfl).2⟩
theorem arg_slice {t e:TypeId} {α:Type} {ok:α→Prop} {en:α→AV} {W:World} {v:Value} {d:DataW H} {ps:List MemPlace} (ht:P.underlying t=some (.slice e)) {r:Reach} {b0:Nat} (hval:Value.okWide P W r b0 t v)
  (h:Rdr enc P t (fun ys=>∃ a,ok a∧ys=[en a])) (hd:DataW.Trod enc P W 0 (fun _=>true) true t v d ps):∃ a,ok a∧Rel (rdW W) Mp.none (en a) v:=by
 obtain ⟨a,len,cap,rfl⟩:=okWide_slice ht hval
 exact jbx rfl h hd
theorem shut_all (hl:laidOutB P=true) {W W':World} (hb:Below W.heap.size W W'):∀ (ts:List TypeId) (vs:List Value) (ds:List (DataW H)) (ps:List MemPlace),(∀ t∈ts,P.readableRec t=true∧t<P.types.size)→
  DataW.TrodAll enc P W 0 (fun _=>true) true ts vs ds ps→(∀ p∈ps,p.block<W.heap.size)→∀ sp:Nat→Bool,(∀ p∈ps,sp p.block=true)→DataW.TrodAll enc P W' 0 sp true ts vs ds ps
 | [],[],[],ps,_,h,_,_,_=>h
 | t::ts,v::vs,d::ds,ps,hr,h,hlt,sp,hs=>by
  obtain ⟨p,q,h1,h2,rfl⟩:=h
  refine ⟨p,q,?_,shut_all hl hb ts vs ds q (fun t ht=>hr t (xg _ ht)) h2 (fun x hx=>hlt x (List.mem_append_right _ hx)) sp (fun x hx=>hs x (List.mem_append_right _ hx)),rfl⟩
  have:=hr t (xm ..)
  exact WideElems.Trod_stays hl this.1 this.2 h1 (fun x hx=>hb.same (hlt x (xy _ hx))) (fun x hx=>hs x (xy _ hx))
 | [],_::_,_,_,_,h,_,_,_=>by cases h
 | [],[],_::_,_,_,h,_,_,_=>by cases h
 | _::_,[],_,_,_,h,_,_,_=>by cases h
 | _::_,_::_,[],_,_,h,_,_,_=>by cases h
theorem relL3 {rd:Rd} {mp:Mp} {x y z:AV} {v w a:Value} (h:Rel rd mp x v) (h':Rel rd mp y w) (h'':Rel rd mp z a):RelL rd mp [x,y,z] #[v,w,a]:=⟨rfl,fun j z u hy hu=>by
 match j with
 | 0=>cases hy;cases hu;exact h
 | 1=>cases hy;cases hu;exact h'
 | 2=>cases hy;cases hu;exact h''
 | j+3=>simp at hy⟩
end
end Go.Sx
end
section
namespace Go.Sx
open Go Go.RowKit
def qah (full:Array Oper) (x y:Oper × Stp):Bool:=(x.2.wr && y.2.wr) || (hits full x.1 y.1 || hits full y.1 x.1)
theorem qtj (full:Array Oper) (x y:Oper × Stp):qah full x y=qah full y x:=by
 simp only [qah,Bool.or_comm,Bool.and_comm]
def qbo (full:Array Oper) (L:List (Oper × Stp)):Bool:=
 (List.range L.length).all fun j=>
  ((List.range j).all fun i=>(match L[i]?,L[j]? with|some x,some y=>!qah full x y || (anc full L.length j).contains i|_,_=>true)) &&
  (match full.toList[j]? with|some o=>o.after.all fun e=>!Region.binds .any e || Nat.blt e.on j|none=>true)
theorem qih {full:Array Oper} {L:List (Oper × Stp)} (h:qbo full L=true) {i j:Nat} {x y:Oper × Stp} (hij:i<j) (hx:L[i]?=some x) (hy:L[j]?=some y) (hc:qah full x y=true):i∈anc full L.length j:=by
 have hj:j<L.length:=(List.getElem?_eq_some_iff.1 hy).1
 have h1:=List.all_eq_true.1 h j (List.mem_range.2 hj)
 simp only [zh] at h1
 have h2:=List.all_eq_true.1 h1.1 i (List.mem_range.2 hij)
 rw [hx,hy] at h2
 simp only [hc,zbu,zbs] at h2
 simpa using h2
theorem qtk {full:Array Oper} {L:List (Oper × Stp)} (h:qbo full L=true) {j:Nat} (hj:j<L.length) {o:Oper} (ho:full.toList[j]?=some o):∀ e∈o.after,Region.binds .any e=true→e.on<j:=by
 have h1:=List.all_eq_true.1 h j (List.mem_range.2 hj)
 simp only [zh,ho] at h1
 intro e he hb
 have:=(Array.all_eq_true_iff_forall_mem.1 h1.2) e he
 simp only [hb,zbu,zbs,zaz] at this
 exact this
def StepS (E:Env) (full:Array Oper) (s:ASt) (o:Oper) (p:Stp):Prop:=
 ∀ rd mp a w,SR E.c rd mp s a w→a.tmps.size=E.fn.ntmps→∀ (K:Act→World→Prop) (Q:Exit→Act→World→Prop),
  (∀ x w' rd' mp',Rd.le rd rd'→Mp.le mp mp'→Mem E.c rd' mp' (bif p.wr then p.st else s.st) (bif p.wr then p.nx else s.nx) w'→Rel rd' mp' p.v x→(∀ d,o.dst=some d→d<a.tmps.size)→K (a.put o.dst x) w')→
  if Region.wanted o (yielded full a.tmps) then o.wp E.P a w K Q∨(o.asks E.P a w∧LetsOut Q) else K (a.put o.dst undef) w
def qkr (QP:(Exit→Act→World→Prop)→Prop) (E:Env) (full:Array Oper) (s:ASt) (o:Oper) (p:Stp):Prop:=
 ∀ rd mp a w,SR E.c rd mp s a w→Base E rd mp→a.tmps.size=E.fn.ntmps→∀ (K:Act→World→Prop) (Q:Exit→Act→World→Prop),QP Q→
  (∀ x w' rd' mp',Rd.le rd rd'→Mp.le mp mp'→Mem E.c rd' mp' (bif p.wr then p.st else s.st) (bif p.wr then p.nx else s.nx) w'→Rel rd' mp' p.v x→(∀ d,o.dst=some d→d<a.tmps.size)→K (a.put o.dst x) w')→
  if Region.wanted o (yielded full a.tmps) then o.wp E.P a w K Q∨(o.asks E.P a w∧LetsOut Q) else K (a.put o.dst undef) w
theorem StepS.q {E:Env} {full:Array Oper} {s:ASt} {o:Oper} {p:Stp} (QP:(Exit→Act→World→Prop)→Prop) (h:StepS E full s o p):qkr QP E full s o p:=fun rd mp a w h1 _ h2 K Q _ h3=>h rd mp a w h1 h2 K Q h3
structure Adm (full:Array Oper) (n:Nat) (S:Nat→Bool) (i:Nat):Prop where
 anc:∀ j∈anc full n i,S j=true
 self:S i=false
 desc:∀ j,i∈Go.Sx.anc full n j→j<full.size→S j=false
 cl:∀ j,S j=true→∀ q∈Go.Sx.anc full n j,S q=true
theorem jby {E:Env} {Q:Exit→Act→World→Prop} {ops:Array Oper} {s:ASt} {L:List (Oper × Stp)} {QP:(Exit→Act→World→Prop)→Prop} (hQP:QP Q) (hLo:L.map (·.1)=ops.toList)
  (hst:∀ (i:Nat) x,L[i]?=some x→∀ S,Adm ops L.length S i→qkr QP E ops (stateAt L 0 S s) x.1 x.2)
  (hord:qbo ops L=true) (hfin:∀ rd mp a w,SR E.c rd mp (stateAt L 0 (fun _=>true) s) a w→Base E rd mp→a.tmps.size=E.fn.ntmps→Q .normal a w) :
  ∀ (fuel:Nat) (listed:Array Bool) (a:Act) (w:World),listed.size=ops.size→listed.count false≤fuel→
   (∀ j o,ops.toList[j]?=some o→listed.getD j false=true→∀ e∈o.after,Region.binds .any e=true→listed.getD e.on false=true)→
   a.tmps.size=E.fn.ntmps→(∃ rd mp,SR E.c rd mp (stateAt L 0 (fun i=>listed.getD i false) s) a w∧Base E rd mp)→wpAny E.P .any ops Q fuel listed a w:=by
 have hlen:L.length=ops.size:=by have:=congrArg List.length hLo;simpa using this
 have done:∀ (listed:Array Bool) (a:Act) (w:World),listed.size=ops.size→(∀ i,i<ops.size→listed.getD i false=true)→a.tmps.size=E.fn.ntmps→
   (∃ rd mp,SR E.c rd mp (stateAt L 0 (fun i=>listed.getD i false) s) a w∧Base E rd mp)→Q .normal a w:=by
  rintro listed a w _ hall hsz ⟨rd,mp,hs,hrd⟩
  have heq:∀ (L':List (Oper × Stp)) (i:Nat) (S S':Nat→Bool) (s:ASt),(∀ j,j<L'.length→S (i+j)=S' (i+j))→stateAt L' i S s=stateAt L' i S' s:=by
   intro L'
   induction L' with
   | nil=>intro i S S' s _;rfl
   | cons y L' ih=>
    intro i S S' s h
    obtain ⟨o,p⟩:=y
    simp only [stateAt]
    have h0:=h 0 (by simp)
    simp only [zac] at h0
    rw [h0]
    exact ih (i+1) S S' _ (fun j hj=>by have:=h (j+1) (by simp;omega);rwa [show i+(j+1)=i+1+j by omega] at this)
  rw [heq L 0 _ (fun _=>true) s (fun j hj=>by rw [zw];exact hall j (by omega))] at hs
  exact hfin rd mp a w hs hrd hsz
 have full_of_ready:∀ (listed:Array Bool),listed.size=ops.size→Region.ready .any ops listed=[]→∀ i,i<ops.size→listed.getD i false=true:=by
  intro listed hls hr i
  induction i using Nat.strongRecOn with
  | _ i ih=>
   intro hi
   cases hl:listed.getD i false with
   | true=>rfl
   | false=>
    exfalso
    have hmem:i∈Region.ready .any ops listed:=by
     rw [mem_ready]
     refine ⟨by simp [hls,hi] at hl ⊢;exact hl,ops[i],by simp [hi],fun e he hb=>?_⟩
     have:=qtk hord (j:=i) (by omega) (o:=ops[i]) (by simp [hi]) e he hb
     exact ih e.on this (by omega)
    rw [hr] at hmem
    simp at hmem
 intro fuel
 induction fuel with
 | zero=>
  intro listed a w hls hcnt hcl hsz hs
  have hall:∀ i,i<ops.size→listed.getD i false=true:=by
   intro i hi
   cases hl:listed.getD i false with
   | true=>rfl
   | false=>
    exfalso
    have hi':i<listed.size:=by omega
    have:false∈listed:=by
     have h2:listed[i]=false:=by simpa [hi'] using hl
     rw [← h2];exact Array.getElem_mem hi'
    have:=Array.count_pos_iff.2 this
    omega
  refine ⟨?_,done listed a w hls hall hsz hs⟩
  cases hr:Region.ready .any ops listed with
  | nil=>rfl
  | cons i r=>
   exfalso
   have hmem:i∈Region.ready .any ops listed:=by rw [hr];simp
   rw [mem_ready] at hmem
   obtain ⟨h0,o,ho,_⟩:=hmem
   have hi:i<ops.size:=(Array.getElem?_eq_some_iff.1 ho).1
   have:=hall i hi
   have hi':i<listed.size:=by omega
   simp [hi'] at h0 this
   rw [h0] at this
   cases this
 | succ fuel ih=>
  intro listed a w hls hcnt hcl hsz hs
  refine ⟨fun hr=>done listed a w hls (full_of_ready listed hls hr) hsz hs,fun i hi=>?_⟩
  rw [mem_ready] at hi
  obtain ⟨h0,o,ho,hedges⟩:=hi
  have hin:i<ops.size:=(Array.getElem?_eq_some_iff.1 ho).1
  have hil:i<listed.size:=by omega
  have hli:listed.getD i false=false:=by simp [hil] at h0 ⊢;exact h0
  have hol:ops.toList[i]?=some o:=by simpa using ho
  obtain ⟨rd,mp,hs,hrd⟩:=hs
  obtain ⟨p,hp⟩:∃ p,L[i]?=some (o,p):=by
   have hi':i<L.length:=by omega
   refine ⟨L[i].2,?_⟩
   have:(L.map (·.1))[i]?=some o:=by rw [hLo];exact hol
   rw [zm,zb hi'] at this
   simp at this
   rw [zb hi',← this]
  -- what is ahead is done, what is behind is not
  have hanc:∀ j∈anc ops L.length i,listed.getD j false=true:=qgu ops _ hcl _ i (fun o' ho'=>by rw [hol] at ho';cases ho';exact hedges)
  have hbeh:∀ j,i∈anc ops L.length j→j<ops.size→listed.getD j false=false:=by
   intro j hj hjs
   cases hl:listed.getD j false with
   | false=>rfl
   | true=>
    exfalso
    have:=qgu ops _ hcl L.length j (fun o' ho'=>hcl j o' ho' hl) i hj
    rw [hli] at this
    cases this
  have agree:∀ (j:Nat) x,L[j]?=some x→(qah ops x (o,p)=true∨qah ops (o,p) x=true)→(fun q=>listed.getD q false) j=decide (j<i):=by
   intro j x hx hc
   have hj:j<ops.size:=by rw [← hlen];exact (List.getElem?_eq_some_iff.1 hx).1
   have hsym:qah ops x (o,p)=qah ops (o,p) x:=qtj _ _ _
   have hc1:qah ops x (o,p)=true:=by rcases hc with h|h;exact h;rw [hsym];exact h
   have hc2:qah ops (o,p) x=true:=by rw [← hsym];exact hc1
   rcases Nat.lt_trichotomy j i with h|h|h
   ·simp only [h,decide_true];exact hanc j (qih hord h hx hp hc1)
   ·subst h;simp only [Nat.lt_irrefl,decide_false];exact hli
   ·have:¬ j<i:=by omega
    simp only [this,decide_false]
    exact hbeh j (qih hord h hp hx hc2) hj
  have hcld:∀ (j:Nat) x t,L[j]?=some x→x.1.dst=some t→o.dst=some t→qah ops x (o,p)=true:=by
   intro j x t _ hd ht
   have:hits ops x.1 o=true:=by simp [hits,hd,ht]
   simp [qah,this]
  have hclm:p.wr=true→∀ (j:Nat) (x:Oper × Stp),L[j]?=some x→x.2.wr=true→qah ops x (o,p)=true:=by
   intro hp' j x _ hw
   simp [qah,hw,hp']
  have hstep':=hst i (o,p) hp (fun q=>listed.getD q false) ⟨hanc,hli,hbeh,fun j hj q hq=>qgu ops _ hcl L.length j (fun o' ho'=>hcl j o' ho' hj) q hq⟩
  have hsucc:∀ (L':List (Oper × Stp)) (k' i':Nat) (s':ASt),L'[i']?=some (o,p)→stateAt L' k' (fun j=>decide (j<k'+i'+1)) s'=after (stateAt L' k' (fun j=>decide (j<k'+i')) s') o p:=by
   intro L'
   induction L' with
   | nil=>intro k' i' s' h;simp at h
   | cons y L' ihL=>
    intro k' i' s' h
    obtain ⟨o',p'⟩:=y
    have none_:∀ (M:List (Oper × Stp)) (m b:Nat),b≤m→∀ s,stateAt M m (fun j=>decide (j<b)) s=s:=by
     intro M
     induction M with
     | nil=>intro m b _ s;rfl
     | cons y M ihM=>
      intro m b hb s
      obtain ⟨o'',p''⟩:=y
      simp only [stateAt]
      have:decide (m<b)=false:=by simp;omega
      rw [this]
      exact ihM (m+1) b (by omega) s
    cases i' with
    | zero=>
     simp at h
     obtain ⟨rfl,rfl⟩:=h
     simp only [stateAt]
     have e1:decide (k'<k'+0+1)=true:=by simp
     have e2:decide (k'<k'+0)=false:=by simp
     rw [e1,e2]
     simp only [cond_true,cond_false]
     rw [none_ L' (k'+1) (k'+0+1) (by omega),none_ L' (k'+1) (k'+0) (by omega)]
    | succ i'=>
     simp at h
     simp only [stateAt]
     have e1:decide (k'<k'+(i'+1)+1)=true:=by simp;omega
     have e2:decide (k'<k'+(i'+1))=true:=by simp
     rw [e1,e2]
     simp only [cond_true]
     have:=ihL (k'+1) i' (after s' o' p') h
     rw [show k'+1+i'+1=k'+(i'+1)+1 by omega,show k'+1+i'=k'+(i'+1) by omega] at this
     exact this
  have hsi:=hsucc L 0 i s hp
  simp only [zw] at hsi
  have hS':∀ j,j≠i→(listed.setIfInBounds i true).getD j false=listed.getD j false:=fun j hj=>getD_set_ne false (Ne.symm hj)
  have hS'i:(listed.setIfInBounds i true).getD i false=true:=by simp [hil]
  have agree':∀ (j:Nat) x,L[j]?=some x→qah ops x (o,p)=true→(listed.setIfInBounds i true).getD j false=decide (j<i+1):=by
   intro j x hx hc
   by_cases hji:j=i
   ·subst hji;rw [hS'i];simp
   ·rw [hS' j hji]
    have:=agree j x hx (.inl hc)
    simp only at this
    rw [this]
    have:(j<i)↔(j<i+1):=by omega
    simp [this]
  unfold wpOp
  rw [ho]
  refine hstep' rd mp a w hs hrd hsz _ _ hQP (fun x w' rd' mp' hr hm hmem hrel hdst=>?_)
  refine ih (listed.setIfInBounds i true) _ w' (by simpa using hls) ?_ ?_ (by rw [qch];exact hsz) ⟨rd',mp',⟨fun t=>?_,?_,?_⟩,hrd.step hr hm⟩
  ·have hl2:listed[i]=false:=by simpa [hil] using hli
   have hc:=Array.count_set (xs:=listed) (i:=i) (a:=true) (b:=false) hil
   rw [Array.setIfInBounds,dif_pos hil,hc,hl2]
   have:0<listed.count false:=Array.count_pos_iff.2 (by rw [← hl2];exact Array.getElem_mem hil)
   simp
   omega
  ·intro j o' ho' hj e he hb
   by_cases hji:j=i
   ·subst hji
    rw [hol] at ho';cases ho'
    exact getD_set_true (hedges e he hb)
   ·rw [hS' j hji] at hj
    exact getD_set_true (hcl j o' ho' hj e he hb)
  ·by_cases hd:o.dst=some t
   ·have hlt:=hdst t hd
    have hget:(stateAt L 0 (fun q=>(listed.setIfInBounds i true).getD q false) s).get t=p.v:=by
     rw [qos t L 0 _ (fun j=>decide (j<i+1)) s s rfl (fun j x hx hdx=>by rw [zw];exact agree' j x hx (hcld j x t hx hdx hd)),hsi,qor,za hd]
    rw [hget]
    have:(a.put o.dst x).tmps.getD t undef=x:=by rw [hd];simp [Act.put,hlt]
    rw [this]
    exact hrel
   ·have hget:(stateAt L 0 (fun q=>(listed.setIfInBounds i true).getD q false) s).get t=(stateAt L 0 (fun q=>listed.getD q false) s).get t:=by
     refine qos t L 0 _ _ s s rfl (fun j x hx hdx=>?_)
     rw [zw]
     refine hS' j (fun e=>?_)
     subst e
     rw [hp] at hx;cases hx
     exact hd hdx
    rw [hget]
    have:(a.put o.dst x).tmps.getD t undef=a.tmps.getD t undef:=by
     cases hdd:o.dst with
     | none=>rfl
     | some d=>
      simp only [Act.put,zai]
      rw [zaw (fun e=>hd (by rw [hdd,e]))]
    rw [this]
    exact (hs.slots t).mono hr hm
  ·cases o.dst <;> exact hs.defers
  ·cases hw:p.wr with
   | true=>
    have hmm:=qie L 0 (fun q=>(listed.setIfInBounds i true).getD q false) (fun j=>decide (j<i+1)) s s rfl rfl (fun j x hx hwx=>by rw [zw];exact agree' j x hx (hclm hw j x hx hwx))
    rw [hmm.1,hmm.2,hsi]
    simp only [hw,cond_true] at hmem
    simpa [after,hw] using hmem
   | false=>
    have hmm:=qie L 0 (fun q=>(listed.setIfInBounds i true).getD q false) (fun q=>listed.getD q false) s s rfl rfl (fun j x hx hwx=>by
     rw [zw]
     refine hS' j (fun e=>?_)
     subst e
     rw [hp] at hx;cases hx
     rw [hw] at hwx;cases hwx)
    rw [hmm.1,hmm.2]
    simpa [hw] using hmem
mutual
def nms:AV→List Nat
 | .own r ..=>[r]
 | .ptr b _=>[b]
 | .eptr r ..=>[r]
 | .mapv b=>[b]
 | .sub r ..=>[r]
 | .mvals r _=>[r]
 | .bfn _ b=>[b]
 | .ifc _ v=>nms v
 | .agg cs=>nmsL cs
 | .tup vs=>nmsL vs
 | .fn _ cs=>nmsL cs
 | .cnd _ v=>nms v
 | _=>[]
def nmsL:List AV→List Nat
 | []=>[]
 | x::l=>nms x++nmsL l
end
def qgv:AV→AV→Bool
 | .ptr ..,.own ..=>true
 | _,_=>false
def foot (s:ASt) (op:Op):List Nat:=
 match op with
 | .store _ a x=>nms (ev s a)++(bif qgv (ev s a) (ev s x) then [] else nms (ev s x))
 | op=>op.operands.toList.flatMap fun x=>nms (ev s x)
theorem jbz {s s':ASt} (op:Op) (h:∀ x∈op.operands,ev s x=ev s' x):foot s op=foot s' op:=by
 unfold foot
 split
 ·rename_i t a x
  rw [h a (by simp [Op.operands]),h x (by simp [Op.operands])]
 ·simp only [List.flatMap_def]
  rw [xj fun x hx=>by rw [h x (by simpa using hx)]]
def Agree (l:List Nat) (st st':List (Nat × SO)):Prop:=∀ x∈l,look st' x=look st x
theorem Agree.mono {l l':List Nat} {st st':List (Nat × SO)} (h:Agree l st st') (hs:∀ x∈l',x∈l):Agree l' st st':=fun x hx=>h x (hs x hx)
variable {T:Nat→TI} {C:Cfg} {st st':List (Nat × SO)}
theorem jo {x:AV} (h:Agree (nms x) st st'):strip st' x=strip st x:=by
 cases x <;> try rfl
 rename_i r i e n
 simp only [strip]
 rw [h r (by simp [nms])]
theorem js {x:AV} (h:Agree (nms x) st st'):qm st' x=qm st x:=by
 cases x <;> try rfl
 rename_i r i e n
 simp only [qm]
 rw [h r (by simp [nms])]
theorem qtl (x:AV):∀ q∈nms (strip st x),q∈nms x:=by
 intro q hq
 cases x with
 | cnd b y=>simpa only [nms,strip] using hq
 | own r i e n=>
  simp only [strip] at hq
  split at hq
  ·simp [nms] at hq
  ·exact hq
 | _=>exact hq
theorem qbt {r i:Nat} (h:look st' r=look st r):qk st' r i=qk st r i:=by
 simp only [qk,h]
theorem qii:∀ {l:List AV},Agree (nmsL l) st st'→jk st' l=jk st l
 | [],_=>rfl
 | x::l,h=>by
  have ih:=qii (l:=l) (h.mono (fun q hq=>by simp only [nmsL,xt];exact .inr hq))
  cases x with
  | own r i e n=>
   have hr:=h r (by simp [nmsL,nms])
   simp only [jk,qbt (i:=i) hr,hr,ih]
  | _=>simp only [jk,ih]
theorem jca {t:TypeId} {x:AV} (h:Agree (nms x) st st'):qdu T st' t x=qdu T st t x:=by
 cases x <;> try rfl
 ·rename_i b o
  simp only [qdu,h b (by simp [nms])]
 ·rename_i r i e n sz k o
  simp only [qdu,qbt (i:=i) (h r (by simp [nms]))]
theorem jcb {t:TypeId} {fi:Nat} {x:AV} (h:Agree (nms x) st st'):qej T st' t fi x=qej T st t fi x:=by
 cases x <;> try rfl
 rename_i r i e n sz k o
 simp only [qej,qbt (i:=i) (h r (by simp [nms]))]
theorem jcc {t:TypeId} {x y:AV} (h:Agree (nms x) st st'):qcu T st' t x y=qcu T st t x y:=by
 cases x <;> cases y <;> try rfl
 rename_i r i e n _ _
 simp only [qcu,qbt (i:=i) (h r (by simp [nms]))]
theorem jcd {k:Kd} {x:AV} (h:Agree (nms x) st st'):lenO st' k x=lenO st k x:=by
 cases k <;> cases x <;> try rfl
 rename_i r i e n
 simp only [lenO,qbt (i:=i) (h r (by simp [nms]))]
theorem jce {dst:Option Nat} {src to:TypeId} {x:AV} (h:Agree (nms x) st st'):qel T C st' dst src to x=qel T C st dst src to x:=by
 cases x <;> try rfl
 rename_i r i e n
 simp only [qel,qbt (i:=i) (h r (by simp [nms]))]
theorem qtm {x:AV} (h:Agree (nms x) st st'):qfe st' x=qfe st x:=by
 have key:∀ y:AV,Agree (nms y) st st'→jk st' [y]=jk st [y]:=fun y hy=>qii (by simpa [nmsL] using hy)
 cases x <;> first|rfl|exact key _ h
theorem qks:∀ {ps:List (Nat × AV)},(∀ p∈ps,Agree (nms p.2) st st')→qcw st' ps=qcw st ps
 | [],_=>rfl
 | (i,x)::r,h=>by
  simp only [qcw,qtm (h (i,x) (by simp)),qks (ps:=r) (fun p hp=>h p (by simp [hp]))]
theorem jcf {t:TypeId} {ps:List (Nat × AV)} (h:∀ p∈ps,Agree (nms p.2) st st'):qek T st' t ps=qek T st t ps:=by
 simp only [qek,qks h]
theorem jcg {t:TypeId} {len:Nat} {ps:List (Nat × AV)} (h:∀ p∈ps,Agree (nms p.2) st st'):qcf T st' t len ps=qcf T st t len ps:=by
 simp only [qcf,qks h]
def OLoc (st st':List (Nat × SO)) (wr:List Nat):OR→OR→Prop
 | .ok ob v,r'=>r'=.ok ob v
 | .mem ob v st1 nx1,r'=>∃ st1',r'=.mem ob v st1' nx1∧(∀ x∈wr,look st1' x=look st1 x)∧∀ x,x ∉ wr→look st1' x=look st' x∧look st1 x=look st x
 | .call f args,r'=>r'=.call f args
 | .bad,_=>True
theorem OLoc.also {wr:List Nat} {r r':OR} {p:Option DP} (h:OLoc st st' wr r r'):OLoc st st' wr (also p r) (also p r'):=by
 cases r with
 | ok ob v=>cases h;rfl
 | mem ob v st1 nx1=>
  obtain ⟨st1',rfl,h1,h2⟩:=h
  exact ⟨st1',rfl,h1,h2⟩
 | call f args=>trivial
 | bad=>trivial
theorem OLoc.same {wr:List Nat} {r:OR} (h:∀ ob v st1 nx1,r≠.mem ob v st1 nx1):OLoc st st' wr r r:=by
 cases r with
 | mem ob v st1 nx1=>exact absurd rfl (h ob v st1 nx1)
 | _=>first|rfl|trivial
theorem qgw {r:Nat} {l:List Nat} {x:Nat}:look (jv st r l) x=if x=r then look (jv st r l) r else look st x:=by
 by_cases hx:x=r
 ·subst hx;simp
 ·rw [ze hx]
  cases l with
  | nil=>rfl
  | cons q qs=>
   simp only [jv]
   split
   ·rw [qd,ze hx]
   ·rfl
theorem qkt {r:Nat} {l:List Nat} (h:look st' r=look st r):look (jv st' r l) r=look (jv st r l) r:=by
 cases l with
 | nil=>exact h
 | cons q qs=>
  simp only [jv,h]
  split
  ·rw [qd,qd,za rfl,za rfl,h]
  ·exact h
theorem Agree.addIds {ns:List Nat} {r:Nat} {l:List Nat} (h:Agree ns st st') (hr:look st' r=look st r):Agree ns (jv st r l) (jv st' r l):=by
 intro x hx
 rw [qgw,qgw (st:=st),qkt hr]
 split
 ·rfl
 ·exact h x hx
theorem qku {r i ep n:Nat} {f:Nat→List AV} {x:Nat}:look (qo st r i ep n f) x=if x=r then look (qo st r i ep n f) r else look st x:=by
 by_cases hx:x=r
 ·subst hx;simp
 ·rw [ze hx]
  simp only [qo]
  split
  ·rw [qd,ze hx]
  ·rw [qd,ze hx]
  ·rfl
theorem jch {r i ep n:Nat} {f:Nat→List AV} (h:look st' r=look st r):look (qo st' r i ep n f) r=look (qo st r i ep n f) r:=by
 simp only [qo,h]
 split
 ·rw [qd,qd,za rfl,za rfl,h]
 ·rw [qd,qd,za rfl,za rfl,h]
 ·exact h
theorem qkv {r i ep n:Nat} {f:Nat→List AV} {l:List Nat} {wr:List Nat} (hr:look st' r=look st r) (hw:r∈wr) (hag:Agree wr st st') :
  (∀ x∈wr,look (qo (jv st' r l) r i ep n f) x=look (qo (jv st r l) r i ep n f) x) ∧
  ∀ x,x ∉ wr→look (qo (jv st' r l) r i ep n f) x=look st' x∧look (qo (jv st r l) r i ep n f) x=look st x:=by
 refine ⟨fun x hx=>?_,fun x hx=>?_⟩
 ·rw [qku,qku (st:=jv st r l),jch (qkt hr)]
  split
  ·rfl
  ·rename_i hne
   rw [qgw,qgw (st:=st),ze hne,ze hne]
   exact hag x hx
 ·have hne:x≠r:=fun e=>hx (e ▸ hw)
  rw [qku,qku (st:=jv st r l),ze hne,ze hne,qgw,qgw (st:=st),ze hne,ze hne]
  exact ⟨rfl,rfl⟩
theorem jci {nx:Nat} {t:TypeId} {a x:AV} (ha:Agree (nms a) st st') (hx:Agree (nmsL (cellsOf x)) st st'):OLoc st st' (nms a) (qff T st nx t a x) (qff T st' nx t a x):=by
 cases a with
 | ptr b o=>
  have hb:=ha b (by simp [nms])
  simp only [qff,qht,qkc,hb,qii hx]
  split
  ·rename_i ty cs hl
   cases Nat.beq ty mapTy with
   | true=>trivial
   | false=>
   simp only [cond_false]
   cases (Nat.ble 1 (T t).size && Nat.beq (cellsOf x).length (T t).size && (cellsOf x).all AV.oneOwn && Nat.ble (o+(cellsOf x).length) cs.length) with
   | false=>trivial
   | true=>
    refine ⟨_,rfl,fun y hy=>?_,fun y hy=>?_⟩
    ·simp only [nms,zk] at hy
     subst hy
     rw [qd,qd,za rfl,za rfl,hb]
    ·simp only [nms,zk] at hy
     rw [qd,qd,ze hy,ze hy]
     exact ⟨rfl,rfl⟩
  ·trivial
 | eptr r i e n sz' k o=>
  have hr:=ha r (by simp [nms])
  have hrow:qk (jv st' r (qce (cellsOf x))) r i=qk (jv st r (qce (cellsOf x))) r i:=qbt (qkt hr)
  have hob:jk (jv st' r (qce (cellsOf x))) (cellsOf x)=jk (jv st r (qce (cellsOf x))) (cellsOf x):=qii (hx.addIds hr)
  simp only [qff,qht,qkc,hrow,hob]
  split
  ·rename_i ob R hl
   cases (Nat.ble 1 (T t).size && Nat.beq sz' R.sz && Nat.beq (cellsOf x).length (T t).size && (cellsOf x).all (qbl R.ids) && Nat.ble (o+(cellsOf x).length) R.sz) with
   | false=>trivial
   | true=>exact ⟨_,rfl,qkv hr (by simp [nms]) ha⟩
  ·trivial
 | _=>trivial
theorem qtn {nx:Nat} {t:TypeId} {b o r i e n:Nat} (ha:Agree (nms (.ptr b o)) st st'):OLoc st st' (nms (.ptr b o)) (qhu T st nx t b o r i e n) (qhu T st' nx t b o r i e n):=by
 have hb:=ha b (by simp [nms])
 simp only [qhu,hb]
 split
 ·rename_i ty cs hl
  cases Nat.beq ty mapTy with
  | true=>trivial
  | false=>
  simp only [cond_false]
  cases (Nat.beq (T t).size 1 && Nat.ble (o+1) cs.length) with
  | false=>trivial
  | true=>
   refine ⟨_,rfl,fun y hy=>?_,fun y hy=>?_⟩
   ·simp only [nms,zk] at hy
    subst hy
    rw [qd,qd,za rfl,za rfl,hb]
   ·simp only [nms,zk] at hy
    rw [qd,qd,ze hy,ze hy]
    exact ⟨rfl,rfl⟩
 ·trivial
theorem qfq {nx:Nat} {o:SO}:(∀ x∈[nx],look ((nx,o)::st') x=look ((nx,o)::st) x)∧∀ x,x ∉ [nx]→look ((nx,o)::st') x=look st' x∧look ((nx,o)::st) x=look st x:=by
 refine ⟨fun x hx=>?_,fun x hx=>?_⟩
 ·simp only [zk] at hx
  subst hx
  rw [qh,qh,za rfl,za rfl]
 ·simp only [zk] at hx
  rw [qh,qh,ze (Ne.symm hx),ze (Ne.symm hx)]
  exact ⟨rfl,rfl⟩
def appW (nx:Nat):AV→List Nat
 | .own r ..=>[r]
 | _=>[nx]
theorem jcj {sl:List (Nat × AV)} {nx:Nat} {t:TypeId} {x y:AV} (hx:Agree (nms x) st st') (hy:Agree (nms y) st st') :
  OLoc st st' (appW nx x) (qdh T ⟨sl,st,nx⟩ t x y) (qdh T ⟨sl,st',nx⟩ t x y):=by
 cases x with
 | own r i ep n=>
  have hr:=hx r (by simp [nms])
  have hag:Agree [r] st st':=fun q hq=>by simp only [zk] at hq;subst hq;exact hr
  cases y with
  | slc sz m g=>
   simp only [qdh,qbt (i:=i) hr]
   split
   ·rename_i e ob R hk hl
    cases (Nat.beq (T e).size sz && Nat.beq e R.e && Nat.beq sz R.sz && Nat.ble 1 sz && Nat.beq (T e).zero.length sz) with
    | false=>trivial
    | true=>exact ⟨_,rfl,qkv (l:=[]) hr (by simp [appW]) hag⟩
   ·trivial
  | own r' i' ep' m=>
   have hr':=hy r' (by simp [nms])
   simp only [qdh,qbt (i:=i') hr']
   split
   ·rename_i ob' R' hl'
    rw [qbt (i:=i) (qkt (l:=R'.ids) hr)]
    split
    ·rename_i e ob R hk hl
     cases (Nat.beq (T e).size R.sz && Nat.beq e R.e && Nat.beq R'.sz R.sz && Nat.ble 1 R.sz && Nat.beq (T e).zero.length R.sz && !Nat.beq r r' && R'.ids.all (fun q=>R.ids.any (Nat.beq q))) with
     | false=>trivial
     | true=>exact ⟨_,rfl,qkv hr (by simp [appW]) hag⟩
    ·trivial
   ·trivial
  | nils=>
   simp only [qdh,qbt (i:=i) hr]
   exact OLoc.same (fun ob v st1 nx1 h=>by split at h <;> first|(cases h;done)|(rename_i e ob R hk hl;cases hc:(Nat.beq (T e).size R.sz && Nat.beq e R.e && Nat.ble 1 R.sz && Nat.beq (T e).zero.length R.sz) <;> simp [hc] at h))
  | _=>trivial
 | nils=>
  cases y with
  | slc sz m g=>
   simp only [qdh]
   split
   ·rename_i e hk
    cases (Nat.beq (T e).size sz && Nat.ble 1 sz && Nat.beq (T e).zero.length sz) with
    | false=>trivial
    | true=>exact ⟨_,rfl,qfq⟩
   ·trivial
  | own r' i' ep' m=>
   have hr':=hy r' (by simp [nms])
   simp only [qdh,qbt (i:=i') hr']
   split
   ·rename_i e ob' R' hk hl'
    cases (Nat.beq (T e).size R'.sz && Nat.ble 1 R'.sz && Nat.beq (T e).zero.length R'.sz) with
    | false=>trivial
    | true=>exact ⟨_,rfl,qfq⟩
   ·trivial
  | _=>trivial
 | _=>trivial
theorem jck {sl:List (Nat × AV)} {nx:Nat} {t:TypeId} {x y:AV}:OLoc st st' [nx] (qgk T ⟨sl,st,nx⟩ t x y) (qgk T ⟨sl,st',nx⟩ t x y):=by
 cases x <;> try trivial
 cases y <;> try trivial
 simp only [qgk]
 split
 ·rename_i e hk
  cases (Nat.beq (T e).zero.length (T e).size && Nat.ble 1 (T e).size && (T e).zero.all (fun y=>y.one && y.pure1)) with
  | false=>trivial
  | true=>exact ⟨_,rfl,qfq⟩
 ·trivial
theorem qto {sl:List (Nat × AV)} {nx:Nat} {ty:TypeId} {cs:List AV} {ob:Option DP}:OLoc st st' [nx] (boxO ⟨sl,st,nx⟩ ty cs ob) (boxO ⟨sl,st',nx⟩ ty cs ob):=by
 unfold boxO
 cases Nat.beq ty mapTy with
 | true=>trivial
 | false=>exact ⟨_,rfl,qfq⟩
theorem jcl {sl:List (Nat × AV)} {nx:Nat} {t:TypeId} {r:Option AV}:OLoc st st' [nx] (qkd T ⟨sl,st,nx⟩ t r) (qkd T ⟨sl,st',nx⟩ t r):=by
 cases r with
 | none=>exact ⟨_,rfl,qfq⟩
 | some _=>trivial
theorem qtp {x:AV} (h:Agree (nms x) st st'):qdi st' x=qdi st x:=by
 cases x <;> try rfl
 rename_i b
 simp only [qdi,h b (by simp [nms])]
theorem jcm {t:TypeId} {x y:AV} {cok:Bool} (h:Agree (nms x) st st'):qeo T st' t x y cok=qeo T st t x y cok:=by
 unfold qeo
 rw [qtp h]
theorem jcn {x:AV} {b:Nat} {ks:List (List UInt8)} (h:qdi st x=some (b,ks)):x=.mapv b∧look st b=some (.box mapTy [.keys ks]):=by
 unfold qdi at h
 split at h
 ·split at h
  ·rename_i ty ks' hl
   cases hty:Nat.beq ty mapTy with
   | true=>
    rw [hty] at h
    cases h
    have:ty=mapTy:=zq hty
    subst this
    exact ⟨rfl,hl⟩
   | false=>rw [hty] at h;cases h
  ·cases h
 ·cases h
theorem jco {nx:Nat} {t:TypeId} {x y:AV} (h:Agree (nms x) st st'):OLoc st st' (nms x) (qdv T st nx t x y) (qdv T st' nx t x y):=by
 unfold qdv
 rw [qtp h]
 split
 ·rename_i k e s b cs hk hm
  obtain ⟨rfl,hl⟩:=jcn hm
  have hb:=h b (by simp [nms])
  cases qen (T k).kd with
  | false=>trivial
  | true=>
   refine ⟨_,rfl,fun y hy=>?_,fun y hy=>?_⟩
   ·simp only [nms,zk] at hy
    subst hy
    rw [qd,qd,za rfl,za rfl,hb]
   ·simp only [nms,zk] at hy
    rw [qd,qd,ze hy,ze hy]
    exact ⟨rfl,rfl⟩
 ·trivial
theorem jcp {sl:List (Nat × AV)} {nx:Nat} {dst:Option Nat} {v:AV}:OLoc st st' [nx] (qgl C ⟨sl,st,nx⟩ dst v) (qgl C ⟨sl,st',nx⟩ dst v):=by
 unfold qgl
 split
 ·exact ⟨_,rfl,qfq⟩
 ·exact rfl
theorem jcq {l:List AV} {x:AV}:∀ {o q:Nat},q∈nmsL (l.set o x)→q∈nmsL l∨q∈nms x:=by
 induction l with
 | nil=>intro o q h;simp [nmsL] at h
 | cons y l ih=>
  intro o q h
  cases o with
  | zero=>
   simp only [List.set_cons_zero,nmsL,xt] at h ⊢
   rcases h with h|h
   ·exact .inr h
   ·exact .inl (.inr h)
  | succ o=>
   simp only [List.set_cons_succ,nmsL,xt] at h ⊢
   rcases h with h|h
   ·exact .inl (.inl h)
   ·rcases ih h with h|h
    ·exact .inl (.inr h)
    ·exact .inr h
theorem qtq:∀ {xs l:List AV} {o q:Nat},q∈nmsL (qy l o xs)→q∈nmsL l∨q∈nmsL xs
 | [],l,o,q,h=>.inl h
 | x::xs,l,o,q,h=>by
  simp only [qy] at h
  rcases qtq h with h|h
  ·rcases jcq h with h|h
   ·exact .inl h
   ·exact .inr (by simp [nmsL,h])
  ·exact .inr (by simp [nmsL,h])
theorem qtr {x:AV} {q:Nat} (h:q∈nmsL (cellsOf x)):q∈nms x:=by
 cases x with
 | agg cs=>simpa only [cellsOf,nms] using h
 | _=>simpa only [cellsOf,nmsL,zas] using h
theorem qts {place:Nat→Option (Nat × Nat)}:∀ {ps:List (Nat × AV)} {cs out:List AV},qbm place cs ps=some out→∀ q∈nmsL out,q∈nmsL cs∨∃ p∈ps,q∈nms p.2
 | [],cs,out,h,q,hq=>by simp only [qbm,Option.some.injEq] at h;subst h;exact .inl hq
 | (i,x)::r,cs,out,h,q,hq=>by
  simp only [qbm] at h
  split at h
  ·rename_i off size hp
   rw [qcr] at h
   cases hc:(qcv x && Nat.beq (cellsOf x).length size && Nat.ble (off+size) cs.length) with
   | false=>simp [hc] at h
   | true=>
    simp only [hc,cond_true] at h
    rcases qts h q hq with h|⟨p,hp,h⟩
    ·rcases qtq h with h|h
     ·exact .inl h
     ·exact .inr ⟨(i,x),by simp,qtr h⟩
    ·exact .inr ⟨p,by simp [hp],h⟩
  ·cases h
theorem jcr {P:Program} (hT:∀ t,T t=tab P t) (t:TypeId):nmsL (T t).zero=[]:=by
 have key:∀ l:List Value,nmsL (l.map qcs)=[]:=by
  intro l
  induction l with
  | nil=>rfl
  | cons v l ih=>
   have:nms (qcs v)=[]:=by unfold qcs;split <;> rfl
   simp only [zag,nmsL,this,ih,zas]
 rw [hT]
 unfold tab
 split
 ·rename_i i d _ _
  simp only [qfd]
  split
  ·exact key _
  ·rfl
 ·rfl
theorem qtt {z:List AV} (h:nmsL z=[]):∀ n,nmsL (qbz z n)=[]
 | 0=>rfl
 | n+1=>by
  have app:∀ a b:List AV,nmsL (a++b)=nmsL a++nmsL b:=by
   intro a b
   induction a with
   | nil=>rfl
   | cons x a ih=>simp only [List.cons_append,nmsL,ih,xe]
  simp only [qbz,app,h,qtt h n,zas]
theorem qtu {P:Program} (hT:∀ t,T t=tab P t) {sl:List (Nat × AV)} {nx:Nat} {t:TypeId} {len:Nat} {ps:List (Nat × AV)} (h:∀ p∈ps,Agree (nms p.2) st st') :
  OLoc st st' [nx] (qfg T ⟨sl,st,nx⟩ t len ps) (qfg T ⟨sl,st',nx⟩ t len ps):=by
 simp only [qfg]
 split
 ·rename_i e hk
  cases (Nat.ble 1 (T e).size && Nat.ble (len * (T e).size) 16777216 && Nat.beq (T e).zero.length (T e).size) with
  | false=>trivial
  | true=>
   simp only [cond_true]
   split
   ·rename_i cs hf
    simp only [qcr,qu]
    cases cs.all (qbl (addIds [] (qce cs))) with
    | false=>trivial
    | true=>
     simp only [cond_true]
     rw [qks h,qii (l:=cs) (fun q hq=>?_)]
     ·exact ⟨_,rfl,qfq⟩
     ·rcases qts hf q hq with h'|⟨p,hp,h'⟩
      ·rw [qtt (jcr hT e)] at h';simp at h'
      ·exact (h p hp q h').symm
   ·trivial
 ·trivial
theorem jcs {t:TypeId} {x:AV} {lo hi mx:Option AV}:∀ ob v st1 nx1,qei T t x lo hi mx≠.mem ob v st1 nx1:=by
 intro ob v st1 nx1 h
 rcases qsw (T:=T) t x lo hi mx with h'|⟨ob',v',h'⟩ <;> rw [h'] at h <;> cases h
theorem jct {sl:List (Nat × AV)} {nx:Nat} {dst:Option Nat} {t:TypeId} {x:AV} {lo hi mx:Option AV} (hx:Agree (nms x) st st') :
  OLoc st st' (nms x) (qfi T C ⟨sl,st,nx⟩ dst t x lo hi mx) (qfi T C ⟨sl,st',nx⟩ dst t x lo hi mx):=by
 cases x with
 | own r i e n=>
  have hr:=hx r (by simp [nms])
  simp only [qfi]
  cases qnp C dst with
  | true=>trivial
  | false=>
  simp only [cond_false]
  cases qnq C dst with
  | true=>
   simp only [cond_true]
   have hag:Agree [r] st st':=fun q hq=>by simp only [zk] at hq;subst hq;exact hr
   have key:∀ (a:Int) (lo':Bool) (ob:Option DP) (R:RowV) (m:Nat) (f:Nat→List AV),OLoc st st' (nms (.own r i e n)) (.mem ob (.own r i (R.ep+1) m) (qo st r i (R.ep+1) m f) nx) (.mem ob (.own r i (R.ep+1) m) (qo st' r i (R.ep+1) m f) nx):=
    fun _ _ _ _ _ _=>⟨_,rfl,qkv (l:=[]) hr (by simp [nms]) (by simpa [nms] using hag)⟩
   unfold cutO
   split
   ·rename_i h1
    cases h1
    simp only [qbt (i:=i) hr]
    split
    ·rename_i el ob R hk hl
     cases (Nat.beq (T el).size R.sz && Nat.ble 1 R.sz) with
     | false=>trivial
     | true=>exact key 0 true _ R _ _
    ·trivial
   ·rename_i h1
    cases h1
    simp only [qbt (i:=i) hr]
    split
    ·rename_i el ob R hk hl
     cases (Nat.beq (T el).size R.sz && Nat.ble 1 R.sz) with
     | false=>trivial
     | true=>exact key 0 true _ R _ _
    ·trivial
   ·trivial
  | false=>
   simp only [cond_false,hr]
   split
   ·rename_i el sz ep m f hl
    split
    ·rename_i ob v hs
     refine ⟨_,rfl,fun y hy=>?_,fun y hy=>?_⟩
     ·simp only [nms,zk] at hy
      subst hy
      rw [qd,qd,za rfl,za rfl,hr]
     ·simp only [nms,zk] at hy
      rw [qd,qd,ze hy,ze hy]
      exact ⟨rfl,rfl⟩
    ·trivial
   ·trivial
 | _=>simp only [qfi];exact OLoc.same jcs
def argW (nx:Nat):List AV→List Nat
 | x::_=>appW nx x
 | []=>[]
def tgt (s:ASt):Op→List Nat
 | .assign _=>[s.nx]
 | .alloc _=>[s.nx]
 | .box _ _=>[s.nx]
 | .buildSlice _ _ _=>[s.nx]
 | .makeSlice _ _ _=>[s.nx]
 | .makeMap _ _=>[s.nx]
 | .mapUpdate _ x _ _=>nms (strip s.st (ev s x))
 | .store _ a _=>nms (strip s.st (ev s a))
 | .slice _ x _ _ _=>nms (strip s.st (ev s x))
 | .call c=>argW s.nx (c.args.toList.map fun x=>strip s.st (ev s x))
 | _=>[]
theorem qkw:∀ {l:List AV},(∀ x∈l,Agree (nms x) st st')→qdf st' l=qdf st l
 | [],_=>rfl
 | x::l,h=>by simp only [qdf,js (h x (by simp)),qkw (l:=l) (fun y hy=>h y (by simp [hy]))]
theorem jcu {k:Kd} {x:AV}:∀ ob v st1 nx1,lenO st k x≠.mem ob v st1 nx1:=by
 intro ob v st1 nx1 h
 unfold lenO at h
 split at h <;> first|(cases h;done)|(split at h <;> cases h)
theorem qtv {b:Bool} {x y:AV}:∀ ob v st1 nx1,minO b x y≠.mem ob v st1 nx1:=by
 intro ob v st1 nx1 h
 unfold minO at h
 split at h <;> cases h
theorem jcv {sl:List (Nat × AV)} {nx:Nat} {b:Builtin} {ts:List TypeId} {args:List AV} (h:∀ x∈args,Agree (nms x) st st') :
  OLoc st st' (argW nx args) (qem T ⟨sl,st,nx⟩ b ts args) (qem T ⟨sl,st',nx⟩ b ts args):=by
 unfold qem
 split
 ·rename_i t x
  simp only [jcd (h x (by simp))]
  exact OLoc.same jcu
 ·rename_i t t' x y
  cases Nat.beq t t' with
  | false=>trivial
  | true=>exact jcj (h x (by simp)) (h y (by simp))
 ·exact OLoc.same qtv
 ·exact OLoc.same qtv
 ·trivial
def isM:OR→Bool
 | .mem ..=>true
 | _=>false
theorem qbi (c:Bool) (a b:OR):isM (bif c then a else b)=bif c then isM a else isM b:=by cases c <;> rfl
theorem jcw {c:Bool} {a:OR} (h:isM a=false):isM (bif c then a else .bad)=false:=by cases c;rfl;exact h
theorem qai (p:Option DP) (r:OR):isM (also p r)=isM r:=by cases r <;> rfl
theorem qkx (w:Bool) (k:IntKind) (n:Int):isM (qdt w k n)=false:=by unfold qdt;cases w <;> rfl
theorem qky (ti:TI) (cs:List AV):isM (qbe ti cs)=false:=by
 unfold qbe
 simp only [qbi]
 cases qaq ti.kd with
 | true=>cases Nat.ble ti.size cs.length <;> rfl
 | false=>
  cases Nat.beq ti.size 1 with
  | false=>rfl
  | true=>cases cs <;> rfl
theorem OLoc.quiet {wr:List Nat} {r:OR} (h:isM r=false):OLoc st st' wr r r:=OLoc.same fun ob v st1 nx1 e=>by rw [e] at h;cases h
theorem jcx {t:TypeId} {x:AV}:isM (qdu T st t x)=false:=by
 unfold qdu
 split
 ·exact qky _ _
 ·split
  ·rw [qbi,qky]
   cases Nat.beq _ _ <;> rfl
  ·rfl
 ·split
  ·simp only [qbi,qai,qky]
   cases Nat.beq _ _ <;> rfl
  ·rfl
 ·rfl
theorem jcy {w:Bool} {op:BinOp} {k:IntKind} {a b:Int}:isM (intO w op k a b)=false:=by cases op <;> first|exact qkx _ _ _|rfl
theorem jcz {op:BinOp} {a b:List UInt8}:isM (strO op a b)=false:=by cases op <;> rfl
theorem qtw {neg:Bool} {t:TypeId} {xs ys:List AV}:isM (aggO T neg t xs ys)=false:=by
 unfold aggO
 split
 ·split <;> rfl
 ·rfl
theorem jda {dst:Option Nat} {op:BinOp} {t:TypeId} {x y:AV}:isM (binO T C dst op t x y)=false:=by
 unfold binO
 split
 ·split
  ·rw [qai];exact qkx _ _ _
  ·rfl
  ·exact jcw jcy
 ·exact jcz
 ·split <;> rfl
 ·split
  ·exact qtw
  ·exact qtw
  ·rfl
 ·rfl
theorem jdb {x y:AV}:isM (andP x y)=false:=by unfold andP;split <;> rfl
theorem jdc {x y:AV}:isM (orP x y)=false:=by unfold orP;split <;> rfl
theorem jdd {x y z:AV}:isM (qhr x y z)=false:=by unfold qhr;split <;> rfl
theorem jde {dst:Option Nat} {op:UnOp} {x:AV}:isM (unO C dst op x)=false:=by
 unfold unO
 split
 ·rfl
 ·exact qkx _ _ _
 ·rfl
theorem jdf {x:AV}:isM (qfj x)=false:=by unfold qfj;split <;> rfl
theorem jdg {dst:Option Nat} {src to:TypeId} {x:AV}:isM (qel T C st dst src to x)=false:=by
 unfold qel
 rw [qbi]
 cases Nat.ble 1 (T src).size with
 | false=>rfl
 | true=>
  simp only [cond_true]
  split
  ·rw [qbi];cases (_ && _:Bool) <;> rfl
  ·split
   ·rw [qbi];cases (_ && _:Bool) <;> rfl
   ·rfl
  ·rw [qbi];cases qdg T src to <;> rfl
  ·split
   ·exact qkx _ _ _
   ·rfl
  ·split <;> rfl
  ·rfl
theorem jdh {t:TypeId} {ps:List (Nat × AV)}:isM (qek T st t ps)=false:=by
 unfold qek
 split
 ·rw [qbi]
  cases (_ && _:Bool) with
  | false=>rfl
  | true=>simp only [cond_true];split <;> rfl
 ·rw [qbi]
  cases (_ && _:Bool) with
  | false=>rfl
  | true=>simp only [cond_true];split <;> rfl
 ·rfl
theorem jdi (K:List AV→OR) (h:∀ l,isM (K l)=false) (l:List AV):isM (qde l K)=false:=by rw [qcr];exact h l
theorem jdj {t:TypeId} {len:Nat} {ps:List (Nat × AV)}:isM (qcf T st t len ps)=false:=by
 unfold qcf
 split
 ·rw [qbi]
  cases (_ && _:Bool) with
  | false=>rfl
  | true=>
   simp only [cond_true]
   split
   ·refine jdi _ (fun l=>?_) _
    rw [qbi,qu]
    cases List.all l _ <;> rfl
   ·rfl
 ·rfl
theorem jdk {t:TypeId} {i:Nat} {x:AV}:isM (qhv T t i x)=false:=by
 unfold qhv
 split
 ·split
  ·split
   ·exact qky _ _
   ·rfl
  ·rfl
 ·rfl
theorem jdl {t:TypeId} {i:Nat} {x:AV}:isM (qej T st t i x)=false:=by
 unfold qej
 split
 ·split
  ·rw [qbi]
   cases Nat.ble 1 _ with
   | false=>rfl
   | true=>
    simp only [cond_true]
    split
    ·rfl
    ·split <;> rfl
    ·rfl
    ·rfl
  ·rfl
 ·rfl
theorem jdm {t:TypeId} {x y:AV}:isM (qcu T st t x y)=false:=by
 unfold qcu
 split
 ·split
  ·rw [qbi];cases (_ && _:Bool) <;> rfl
  ·rfl
 ·split
  ·rw [qbi];cases (_ && _:Bool) <;> rfl
  ·rfl
 ·split
  ·rw [qbi];cases Nat.ble _ _ <;> rfl
  ·rfl
 ·rfl
theorem jdn {t:TypeId} {x y:AV}:isM (qhs T t x y)=false:=by
 unfold qhs
 split
 ·split <;> rfl
 ·split
  ·rw [qbi];cases (_ && _:Bool) <;> rfl
  ·rfl
 ·rfl
theorem jdo {t:TypeId} {x y:AV} {cok:Bool}:isM (qeo T st t x y cok)=false:=by
 unfold qeo
 split
 ·cases (_ && _:Bool) <;> rfl
 ·rfl
theorem jdp {i:Nat} {x:AV}:isM (qhw i x)=false:=by
 unfold qhw
 split
 ·split <;> rfl
 ·rfl
theorem Agree.strip {x:AV} (h:Agree (nms x) st st'):Agree (nms (strip st x)) st st':=h.mono (qtl x)
theorem jdq {P:Program} (hT:∀ t,T t=tab P t) {sl:List (Nat × AV)} {nx:Nat} {dst:Option Nat} {t:TypeId} {len:Nat} {ps:List (Nat × AV)} (h:∀ p∈ps,Agree (nms p.2) st st') :
  OLoc st st' [nx] (qfh T C ⟨sl,st,nx⟩ dst t len ps) (qfh T C ⟨sl,st',nx⟩ dst t len ps):=by
 unfold qfh
 split
 ·exact qtu hT h
 ·cases C.lit with
  | true=>exact qtu hT h
  | false=>simp only [cond_false,jcg h];exact OLoc.quiet jdj
theorem jdr {P:Program} (hT:∀ t,T t=tab P t) {sl:List (Nat × AV)} {nx:Nat} {dst:Option Nat} (op:Op) (h:∀ x∈op.operands,Agree (nms (ev ⟨sl,st,nx⟩ x)) st st') :
  OLoc st st' (tgt ⟨sl,st,nx⟩ op) (aop T C ⟨sl,st,nx⟩ dst op) (aop T C ⟨sl,st',nx⟩ dst op):=by
 have hev:∀ x,ev ⟨sl,st',nx⟩ x=ev ⟨sl,st,nx⟩ x:=fun x=>by cases x <;> rfl
 cases op with
 | move x=>simp only [aop,hev];rfl
 | assign x=>simp only [aop,hev];exact jcp
 | pick x y z=>
  have hx:=h x (by simp [Op.operands])
  simp only [aop,hev,jo hx,js hx]
  split
  ·exact OLoc.quiet (by rw [qai,jdb])
  ·exact OLoc.quiet (by rw [qai,jdc])
  ·exact OLoc.quiet (by rw [qai,jdd])
 | alloc e=>
  simp only [aop]
  cases (_ && _:Bool) with
  | false=>trivial
  | true=>exact qto
 | box e x=>
  have hx:=h x (by simp [Op.operands])
  simp only [aop,hev,jo hx,js hx,qtm hx.strip]
  cases qcv _ with
  | false=>trivial
  | true=>exact OLoc.also qto
 | build t ps=>
  have hp:∀ p∈ps.toList,Agree (nms (ev ⟨sl,st,nx⟩ p.2)) st st':=fun p hp=>h p.2 (by simp only [Op.operands];simp;exact ⟨p.1,by simpa using hp⟩)
  have e2:(ps.toList.map fun p=>(p.1,strip st' (ev ⟨sl,st,nx⟩ p.2)))=ps.toList.map fun p=>(p.1,strip st (ev ⟨sl,st,nx⟩ p.2)):=xj fun p hp'=>by rw [jo (hp p hp')]
  simp only [aop,hev,e2]
  rw [qkw (st:=st) (st':=st') (fun x hx=>by obtain ⟨p,hp',rfl⟩:=List.mem_map.1 hx;exact hp p hp'),jcf (st:=st) (st':=st') (fun x hx=>by obtain ⟨p,hp',rfl⟩:=List.mem_map.1 hx;exact (hp p hp').strip)]
  exact OLoc.quiet (by rw [qai,jdh])
 | buildSlice t n ps=>
  have hp:∀ p∈ps.toList,Agree (nms (ev ⟨sl,st,nx⟩ p.2)) st st':=fun p hp=>h p.2 (by simp only [Op.operands];simp;exact ⟨p.1,by simpa using hp⟩)
  have e2:(ps.toList.map fun p=>(p.1,strip st' (ev ⟨sl,st,nx⟩ p.2)))=ps.toList.map fun p=>(p.1,strip st (ev ⟨sl,st,nx⟩ p.2)):=xj fun p hp'=>by rw [jo (hp p hp')]
  simp only [aop,hev,e2]
  rw [qkw (st:=st) (st':=st') (fun x hx=>by obtain ⟨p,hp',rfl⟩:=List.mem_map.1 hx;exact hp p hp')]
  exact OLoc.also (jdq hT (fun x hx=>by obtain ⟨p,hp',rfl⟩:=List.mem_map.1 hx;exact (hp p hp').strip))
 | load t x=>
  have hx:=h x (by simp [Op.operands])
  simp only [aop,hev,jo hx,js hx,jca hx.strip]
  exact OLoc.quiet (by rw [qai,jcx])
 | store t x y=>
  have hx:=h x (by simp [Op.operands])
  have hy:=h y (by simp [Op.operands])
  simp only [aop,hev,jo hx,js hx,tgt]
  refine OLoc.also ?_
  have hx':=hx.strip
  generalize strip st (ev ⟨sl,st,nx⟩ x)=sx at hx' ⊢
  generalize ev ⟨sl,st,nx⟩ y=sy at hy ⊢
  cases hb:qgv sx sy with
  | true=>
   unfold qgv at hb
   split at hb
   ·simp only [qgj];exact qtn hx'
   ·cases hb
  | false=>
   have e:∀ st0,qgj T st0 nx t sx sy=also (qm st0 sy) (qff T st0 nx t sx (strip st0 sy)):=by
    intro st0
    unfold qgj
    split
    ·simp [qgv] at hb
    ·rfl
   rw [e,e,jo hy,js hy]
   exact OLoc.also (jci hx' (hy.strip.mono fun q hq=>qtr hq))
 | nilCheck x=>
  have hx:=h x (by simp [Op.operands])
  simp only [aop,hev,jo hx,js hx]
  exact OLoc.quiet (by rw [qai,jdf])
 | binOp op t x y yt=>
  have hx:=h x (by simp [Op.operands])
  have hy:=h y (by simp [Op.operands])
  simp only [aop,hev,jo hx,js hx,jo hy,js hy]
  exact OLoc.quiet (by rw [qai,qai,jda])
 | unOp op t x=>
  have hx:=h x (by simp [Op.operands])
  simp only [aop,hev,jo hx,js hx]
  exact OLoc.quiet (by rw [qai,jde])
 | convert src t x=>
  have hx:=h x (by simp [Op.operands])
  simp only [aop,hev,jo hx,js hx,jce hx.strip]
  exact OLoc.quiet (by rw [qai,jdg])
 | makeFunc fn first captured=>
  simp only [aop]
  have hm:List.map (ev ⟨sl,st',nx⟩) captured.toList=List.map (ev ⟨sl,st,nx⟩) captured.toList:=xj fun x _=>hev x
  rw [hm]
  clear h
  generalize first.toList=l
  cases fn with
  | func f=>
   cases l with
   | nil=>exact OLoc.quiet rfl
   | cons x l=>
    cases l with
    | nil=>
     show OLoc st st' _ (qfl f (ev ⟨sl,st,nx⟩ x) _) (qfl f (ev ⟨sl,st',nx⟩ x) _)
     rw [hev]
     exact OLoc.quiet (by
      unfold qfl
      split
      ·cases Nat.beq _ _ <;> rfl
      ·rfl)
    | cons y l=>exact OLoc.quiet rfl
  | _=>exact OLoc.quiet rfl
 | makeSlice t x y=>
  have hx:=h x (by simp [Op.operands])
  have hy:=h y (by simp [Op.operands])
  simp only [aop,hev,jo hx,js hx,jo hy,js hy]
  exact OLoc.also (OLoc.also jck)
 | slice t x lo hi mx=>
  have hx:=h x (by simp [Op.operands])
  have e1:∀ y∈lo,Agree (nms (ev ⟨sl,st,nx⟩ y)) st st':=fun y hy=>h y (by cases lo <;> simp at hy;subst hy;simp [Op.operands])
  have e2:∀ y∈hi,Agree (nms (ev ⟨sl,st,nx⟩ y)) st st':=fun y hy=>h y (by cases hi <;> simp at hy;subst hy;simp [Op.operands])
  have e3:∀ y∈mx,Agree (nms (ev ⟨sl,st,nx⟩ y)) st st':=fun y hy=>h y (by cases mx <;> simp at hy;subst hy;simp [Op.operands])
  have f:∀ (l:Option Operand),(∀ y∈l,Agree (nms (ev ⟨sl,st,nx⟩ y)) st st')→l.map (ev ⟨sl,st',nx⟩)=l.map (ev ⟨sl,st,nx⟩)∧qka st' (l.map (ev ⟨sl,st,nx⟩))=qka st (l.map (ev ⟨sl,st,nx⟩))∧(l.map fun y=>strip st' (ev ⟨sl,st',nx⟩ y))=l.map fun y=>strip st (ev ⟨sl,st,nx⟩ y):=by
   intro l hl
   cases l with
   | none=>exact ⟨rfl,rfl,rfl⟩
   | some y=>exact ⟨by simp [hev],js (hl y rfl),by simp [hev,jo (hl y rfl)]⟩
  simp only [aop]
  rw [(f lo e1).1,(f lo e1).2.1,(f lo e1).2.2,(f hi e2).1,(f hi e2).2.1,(f hi e2).2.2,(f mx e3).2.2,hev,jo hx,js hx]
  exact OLoc.also (OLoc.also (OLoc.also (jct hx.strip)))
 | fieldAddr t x i=>
  have hx:=h x (by simp [Op.operands])
  simp only [aop,hev,jo hx,js hx,jcb hx.strip]
  exact OLoc.quiet (by rw [qai,jdl])
 | field t x i=>
  have hx:=h x (by simp [Op.operands])
  simp only [aop,hev,jo hx,js hx]
  exact OLoc.quiet (by rw [qai,jdk])
 | indexAddr t x i=>
  have hx:=h x (by simp [Op.operands])
  have hy:=h i (by simp [Op.operands])
  simp only [aop,hev,jo hx,js hx,jo hy,js hy,jcc hx.strip]
  exact OLoc.quiet (by rw [qai,qai,jdm])
 | index t x i=>
  have hx:=h x (by simp [Op.operands])
  have hy:=h i (by simp [Op.operands])
  simp only [aop,hev,jo hx,js hx,jo hy,js hy]
  exact OLoc.quiet (by rw [qai,qai,jdn])
 | extract x i=>
  have hx:=h x (by simp [Op.operands])
  simp only [aop,hev,jo hx,js hx]
  exact OLoc.quiet (by rw [qai,jdp])
 | makeMap t r=>
  simp only [aop]
  have e:r.map (ev ⟨sl,st',nx⟩)=r.map (ev ⟨sl,st,nx⟩):=by cases r <;> simp [hev]
  rw [e]
  exact jcl
 | lookup t x y cok=>
  have hx:=h x (by simp [Op.operands])
  have hy:=h y (by simp [Op.operands])
  simp only [aop,hev,jo hx,js hx,jo hy,js hy,jcm hx.strip]
  exact OLoc.quiet (by rw [qai,qai,jdo])
 | mapUpdate t x y z=>
  have hx:=h x (by simp [Op.operands])
  have hy:=h y (by simp [Op.operands])
  simp only [aop,hev,jo hx,js hx,jo hy,js hy,tgt]
  exact OLoc.also (OLoc.also (jco hx.strip))
 | call cl=>
  obtain ⟨callee,⟨args⟩,ats⟩:=cl
  have ha:∀ x∈args,Agree (nms (ev ⟨sl,st,nx⟩ x)) st st':=fun x hx=>h x (by simp only [Op.operands,Call.operands];simp;exact .inr hx)
  have hm:args.map (ev ⟨sl,st',nx⟩)=args.map (ev ⟨sl,st,nx⟩):=xj fun x _=>hev x
  simp only [aop]
  cases callee with
  | builtin b=>
   have hm2:(args.map fun x=>strip st' (ev ⟨sl,st',nx⟩ x))=args.map fun x=>strip st (ev ⟨sl,st,nx⟩ x):=xj fun x hx=>by rw [hev,jo (ha x hx)]
   simp only [hm,hm2]
   rw [qkw (st:=st) (st':=st') (fun x hx=>by obtain ⟨p,hp',rfl⟩:=List.mem_map.1 hx;exact ha p hp')]
   exact OLoc.also (jcv (fun x hx=>by obtain ⟨p,hp',rfl⟩:=List.mem_map.1 hx;exact (ha p hp').strip))
  | value f=>
   simp only [hm,hev]
   refine OLoc.quiet ?_
   unfold qke
   split <;> rfl
  | invoke r m=>trivial
 | _=>trivial
theorem qtx {P:Program} (hT:∀ t,T t=tab P t) {sl:List (Nat × AV)} {nx:Nat} {dst:Option Nat} (op:Op) (h:Agree (foot ⟨sl,st,nx⟩ op) st st') :
  OLoc st st' (tgt ⟨sl,st,nx⟩ op) (aop T C ⟨sl,st,nx⟩ dst op) (aop T C ⟨sl,st',nx⟩ dst op):=by
 have all:(∀ x∈op.operands,∀ n∈nms (ev ⟨sl,st,nx⟩ x),n∈foot ⟨sl,st,nx⟩ op)→OLoc st st' (tgt ⟨sl,st,nx⟩ op) (aop T C ⟨sl,st,nx⟩ dst op) (aop T C ⟨sl,st',nx⟩ dst op):=fun hf=>
  jdr hT op (fun x hx=>h.mono (hf x hx))
 cases op with
 | store t a x=>
  have hev:∀ x,ev ⟨sl,st',nx⟩ x=ev ⟨sl,st,nx⟩ x:=fun x=>by cases x <;> rfl
  cases hb:qgv (ev ⟨sl,st,nx⟩ a) (ev ⟨sl,st,nx⟩ x) with
  | false=>
   refine all (fun y hy n hn=>?_)
   simp only [foot,hb,cond_false,xt]
   simp only [Op.operands] at hy
   simp at hy
   rcases hy with rfl|rfl
   ·exact .inl hn
   ·exact .inr hn
  | true=>
   have ha:Agree (nms (ev ⟨sl,st,nx⟩ a)) st st':=h.mono (fun n hn=>by simp only [foot,xt];exact .inl hn)
   simp only [aop,hev,tgt]
   generalize ev ⟨sl,st,nx⟩ a=sa at hb ha ⊢
   generalize ev ⟨sl,st,nx⟩ x=sx at hb ⊢
   unfold qgv at hb
   split at hb
   ·simp only [qm,strip,qgj]
    exact OLoc.also (qtn ha)
   ·cases hb
 | _=>exact all (fun x hx n hn=>List.mem_flatMap.2 ⟨x,by simpa using hx,hn⟩)
end Go.Sx
end
section
namespace Go.Sx
open Go Go.RowKit
universe u
def qgx (full:Array Oper) (L:List (Oper × Stp)) (i m:Nat):Bool:=
 (List.range L.length).all fun q=>match L[q]? with
  | some x=>!x.2.wr || (bif Nat.blt q m then !(anc full L.length q).contains i else !(anc full L.length i).contains q)
  | none=>true
end Go.Sx
end
section
namespace Go.Sx
open Go Go.RowKit
variable {rd rd':Rd} {mp mp':Mp} {st:List (Nat × SO)} {nx:Nat} {w w':World} {s:ASt} {a:Act} {c c':Ctx}
def AV.ren0 (ι:Nat→Nat):AV→AV
 | .own r i e n=>.own (ι r) i e n
 | .ptr b o=>.ptr (ι b) o
 | .eptr r i e n sz k o=>.eptr (ι r) i e n sz k o
 | .mapv b=>.mapv (ι b)
 | .sub r i e n sz a m=>.sub (ι r) i e n sz a m
 | .mvals r l=>.mvals (ι r) l
 | .bfn f b=>.bfn f (ι b)
 | x=>x
def AV.ren1 (ι:Nat→Nat):AV→AV
 | .fn f cs=>.fn f (cs.map (AV.ren0 ι))
 | x=>x.ren0 ι
def AV.renA (ι:Nat→Nat):AV→AV
 | .agg cs=>.agg (cs.map (AV.ren1 ι))
 | .fn f cs=>.fn f (cs.map (AV.ren1 ι))
 | x=>x.ren1 ι
def AV.ren (ι:Nat→Nat):AV→AV
 | .tup vs=>.tup (vs.map (AV.renA ι))
 | x=>x.renA ι
def SO.ren (ι:Nat→Nat):SO→SO
 | .box ty cs=>.box ty (cs.map (AV.ren1 ι))
 | .row ids e sz ep n f=>.row (ids.map ι) e sz ep n (match ids with|[]=>f|_=>fun k=>(f k).map (AV.ren1 ι))
 | .fam e sz cnt ep len f=>.fam e sz cnt ep len f
 | .ro sz ep n f=>.ro sz ep n f
def RowV.ren (ι:Nat→Nat) (R:RowV):RowV:=⟨R.ids.map ι,R.e,R.sz,R.ep,R.n,match R.ids with|[]=>R.f|_=>fun k=>(R.f k).map (AV.ren1 ι)⟩
def Mp.pull (mp:Mp) (ι:Nat→Nat):Mp:=⟨fun j=>mp.blk (ι j),fun j i=>mp.row (ι j) i⟩
theorem qou {ι:Nat→Nat} {x:AV} {v:Value} {n:Nat} (hl:x.lt0 n=true):Rel rd (mp.pull ι) x v↔Rel rd mp (x.ren0 ι) v:=by
 constructor
 ·intro h
  cases h with
  | own _ r i e m v vr er nr h1 h2 h3 h4 hsl=>exact .own _ _ _ _ _ _ vr er nr h1 h2 h3 h4 hsl
  | ptr _ b off blk hb=>exact .ptr _ _ _ _ hb
  | mapv _ b g hb=>exact .mapv _ _ _ hb
  | bfn _ f b g hb=>exact .bfn _ _ _ _ hb
  | eptr _ r i e m sz k off v vr er nr h1 h2 h3 h4=>exact .eptr _ _ _ _ _ _ _ _ _ vr er nr h1 h2 h3 h4
  | sub _ r i e m sz a k v vr er nr h1 h2 h3 h4 h5=>exact .sub _ _ _ _ _ _ _ _ _ vr er nr h1 h2 h3 h4 h5
  | mvals _ r l vs hs he=>exact .mvals _ _ _ _ hs (fun j i e m v hx hv=>by cases he j i e m v hx hv with|own _ _ _ _ _ _ vr er nr h1 h2 h3 h4 h5=>exact .own _ _ _ _ _ _ vr er nr h1 h2 h3 h4 h5)
  | _=>first
   | (simp [AV.lt0] at hl;done)
   | (constructor <;> assumption)
   | constructor
 ·intro h
  cases x with
  | own r i e m=>cases h with|own _ _ _ _ _ _ vr er nr h1 h2 h3 h4 hsl=>exact .own _ _ _ _ _ _ vr er nr h1 h2 h3 h4 hsl
  | ptr b o=>cases h with|ptr _ _ _ blk hb=>exact .ptr _ _ _ _ hb
  | mapv b=>cases h with|mapv _ _ g hb=>exact .mapv _ _ _ hb
  | bfn f b=>cases h with|bfn _ _ _ g hb=>exact .bfn _ _ _ _ hb
  | eptr r i e m sz k o=>cases h with|eptr _ _ _ _ _ _ _ _ _ vr er nr h1 h2 h3 h4=>exact .eptr _ _ _ _ _ _ _ _ _ vr er nr h1 h2 h3 h4
  | sub r i e m sz a k=>cases h with|sub _ _ _ _ _ _ _ _ _ vr er nr h1 h2 h3 h4 h5=>exact .sub _ _ _ _ _ _ _ _ _ vr er nr h1 h2 h3 h4 h5
  | mvals r l=>cases h with|mvals _ _ _ vs hs he=>exact .mvals _ _ _ _ hs (fun j i e m v hx hv=>by cases he j i e m v hx hv with|own _ _ _ _ _ _ vr er nr h1 h2 h3 h4 h5=>exact .own _ _ _ _ _ _ vr er nr h1 h2 h3 h4 h5)
  | agg cs=>simp [AV.lt0] at hl
  | tup cs=>simp [AV.lt0] at hl
  | fn f cs=>simp [AV.lt0] at hl
  | cnd b y=>simp [AV.lt0] at hl
  | ifc t y=>simp [AV.lt0] at hl
  | _=>exact h.pure1 rfl
theorem qfr {ι:Nat→Nat} {x:AV} {v:Value} {n:Nat} (hl:x.lt1 n=true):Rel rd (mp.pull ι) x v↔Rel rd mp (x.ren1 ι) v:=by
 cases x with
 | fn f cs=>
  have hc:∀ (j:Nat) y,cs[j]?=some y→y.lt0 n=true:=fun j y hy=>List.all_eq_true.1 hl y (zp hy)
  constructor
  ·intro h
   cases h with
   | fn _ _ _ vs hs he=>
    refine .fn _ _ _ _ (by simpa using hs) (fun j x v hx hv=>?_)
    rw [zm] at hx
    obtain ⟨y,hy,rfl⟩:=Option.map_eq_some_iff.1 hx
    exact (qou (hc j y hy)).1 (he j y v hy hv)
  ·intro h
   cases h with
   | fn _ _ _ vs hs he=>
    refine .fn _ _ _ _ (by simpa using hs) (fun j x v hx hv=>?_)
    exact (qou (hc j x hx)).2 (he j _ v (by rw [zm,hx];rfl) hv)
 | _=>exact qou (n:=n) hl
theorem qfs {ι:Nat→Nat} {n:Nat} {cs:List AV} {vs:Array Value} (hl:cs.all (AV.lt1 n)=true) :
  (∀ (j:Nat) x v,cs[j]?=some x→vs[j]?=some v→Rel rd (mp.pull ι) x v)↔(∀ (j:Nat) x v,(cs.map (AV.ren1 ι))[j]?=some x→vs[j]?=some v→Rel rd mp x v):=by
 constructor
 ·intro h j x v hx hv
  rw [zm] at hx
  obtain ⟨y,hy,rfl⟩:=Option.map_eq_some_iff.1 hx
  exact (qfr (List.all_eq_true.1 hl y (zp hy))).1 (h j y v hy hv)
 ·intro h j x v hx hv
  exact (qfr (List.all_eq_true.1 hl x (zp hx))).2 (h j _ v (by rw [zm,hx];rfl) hv)
theorem qov {ι:Nat→Nat} {x:AV} {v:Value} {n:Nat} (hl:x.ltA n=true):Rel rd (mp.pull ι) x v↔Rel rd mp (x.renA ι) v:=by
 cases x with
 | agg cs=>
  constructor
  ·intro h
   cases h with|agg _ _ vs hs he=>exact .agg _ _ _ (by simpa using hs) ((qfs hl).1 he)
  ·intro h
   cases h with|agg _ _ vs hs he=>exact .agg _ _ _ (by simpa using hs) ((qfs hl).2 he)
 | fn f cs=>
  constructor
  ·intro h
   cases h with|fn _ _ _ vs hs he=>exact .fn _ _ _ _ (by simpa using hs) ((qfs hl).1 he)
  ·intro h
   cases h with|fn _ _ _ vs hs he=>exact .fn _ _ _ _ (by simpa using hs) ((qfs hl).2 he)
 | _=>exact qfr (n:=n) hl
theorem qet {ι:Nat→Nat} {x:AV} {v:Value} {n:Nat} (hl:x.lt n=true):Rel rd (mp.pull ι) x v↔Rel rd mp (x.ren ι) v:=by
 cases x with
 | tup cs=>
  constructor
  ·intro h
   cases h with
   | tup _ _ vs hs he=>
    refine .tup _ _ _ (by simpa using hs) (fun j x v hx hv=>?_)
    rw [zm] at hx
    obtain ⟨y,hy,rfl⟩:=Option.map_eq_some_iff.1 hx
    exact (qov (List.all_eq_true.1 hl y (zp hy))).1 (he j y v hy hv)
  ·intro h
   cases h with
   | tup _ _ vs hs he=>
    refine .tup _ _ _ (by simpa using hs) (fun j x v hx hv=>?_)
    exact (qov (List.all_eq_true.1 hl x (zp hx))).2 (he j _ v (by rw [zm,hx];rfl) hv)
 | _=>exact qov (n:=n) hl
def idx:Nat→List SO→List (Nat × SO)
 | _,[]=>[]
 | i,o::r=>(i,o)::idx (i+1) r
theorem qkz:∀ (l:List SO) (i j:Nat),look (idx i l) j=if i≤j then l[j - i]? else none:=by
 intro l
 induction l with
 | nil=>intro i j;simp [idx,look]
 | cons o l ih=>
  intro i j
  simp only [idx,qh,ih]
  by_cases h1:i=j
  ·subst h1;simp
  ·by_cases h2:i≤j
   ·rw [ze h1,za (by omega),za h2,show j - i=(j - (i+1))+1 by omega,zan]
   ·rw [ze h1,ze (by omega),ze h2]
def Trip (P:Program) (f:FuncId) (args:List AV) (st0:List SO) (res:AV) (st1:List (Nat × SO)) (n1:Nat):Prop:=
 ∀ c rd mp w vs,c.w0=w→c.rd0=rd→c.fre=stdF→Mem c rd mp (idx 0 st0) st0.length w→RelL rd mp args vs→Invokes P f vs w (fun v w'=>
  ∃ rd' mp',Rel rd' mp' res v∧Rd.le rd rd'∧Mp.le mp mp'∧Mem c rd' mp' st1 n1 w') (fun _ _=>False)
def names (is:List Nat) (nx:Nat) (j:Nat):Nat:=if j<is.length then is.getD j 0 else nx+(j - is.length)
def inv (is:List Nat) (nx y:Nat):Option Nat:=if y∈is then some (is.idxOf y) else if nx≤y then some (is.length+(y - nx)) else none
def Mp.back (mp mp':Mp) (is:List Nat) (nx:Nat):Mp:=
 ⟨fun y=>match inv is nx y with|some j=>mp'.blk j | .none=>mp.blk y,fun y i=>match inv is nx y with|some j=>mp'.row j i | .none=>mp.row y i⟩
theorem qdx {is:List Nat} {nx:Nat} (hd:is.Nodup) (hlt:∀ i∈is,i<nx) (j:Nat):inv is nx (names is nx j)=some j:=by
 unfold inv names
 by_cases h:j<is.length
 ·rw [za h]
  have hg:is.getD j 0=is[j]:=by simp [List.getD,h]
  rw [hg,za (zau h),hd.idxOf_getElem j h]
 ·rw [ze h,ze (fun hm=>by have:=hlt _ hm;omega),za (by omega)]
  congr 1;omega
theorem qdy {is:List Nat} {nx y j:Nat} (h:inv is nx y=some j):names is nx j=y:=by
 unfold inv at h
 split at h
 ·rename_i hm
  cases h
  have hl:=zbg hm
  unfold names
  rw [za hl]
  simp [List.getD,hl]
 ·split at h
  ·cases h
   unfold names
   rw [ze (by omega)]
   omega
  ·cases h
theorem qow {is:List Nat} {nx:Nat} (hd:is.Nodup) (hlt:∀ i∈is,i<nx):(Mp.back mp mp' is nx).pull (names is nx)=mp':=by
 simp only [Mp.pull,Mp.back,qdx hd hlt]
theorem SO.ren_box {ι:Nat→Nat} {o:SO} {ty:TypeId} {cs:List AV} (h:o.ren ι=.box ty cs):∃ cs0,o=.box ty cs0∧cs=cs0.map (AV.ren1 ι):=by
 cases o with
 | box t c=>simp only [SO.ren,SO.box.injEq] at h;obtain ⟨rfl,rfl⟩:=h;exact ⟨c,rfl,rfl⟩
 | row=>simp [SO.ren] at h
 | fam=>simp [SO.ren] at h
 | ro=>simp [SO.ren] at h
structure Named (st0:List (Nat × SO)) (st:List (Nat × SO)) (ι:Nat→Nat):Prop where
 at_:∀ j o,look st0 j=some o→look st (ι j)=some (o.ren ι)
theorem Named.mem {st0:List (Nat × SO)} {ι:Nat→Nat} (h:Named st0 st ι) {j i:Nat} {R:RowV} (hR:IsMem st0 j i R):IsMem st (ι j) i (R.ren ι):=by
 cases hR with
 | row hl=>exact .row (h.at_ _ _ hl)
 | fam hl hi=>exact .fam (h.at_ _ _ hl) hi
def Pl.ren (ι:Nat→Nat):Pl→Pl
 | .bx b=>.bx (ι b)
 | .rw r i=>.rw (ι r) i
theorem Named.there {st0:List (Nat × SO)} {ι:Nat→Nat} (h:Named st0 st ι) {p:Pl} (hp:There st0 p):There st (p.ren ι):=by
 cases p with
 | bx b=>obtain ⟨ty,cs,hl⟩:=hp;exact ⟨ty,_,h.at_ _ _ hl⟩
 | rw r i=>obtain ⟨R,hR⟩:=hp;exact ⟨_,h.mem hR⟩
theorem jds (mp:Mp) (ι:Nat→Nat) (p:Pl):blkOf (mp.pull ι) p=blkOf mp (p.ren ι):=by cases p <;> rfl
theorem RowV.ren_row {ι:Nat→Nat} {R:RowV} {n:Nat} (hl:∀ k,k<R.n→(R.f k).all (AV.lt1 n)=true) {xs:List Value} :
  (∀ (k j:Nat) x,k<R.n→(R.f k)[j]?=some x→∃ u,xs[k * R.sz+j]?=some u∧u.oneCell'=true∧Rel rd ((mp.pull ι).sel R.ids) x u)→
  (∀ (k j:Nat) x,k<R.n→((R.ren ι).f k)[j]?=some x→∃ u,xs[k * R.sz+j]?=some u∧u.oneCell'=true∧Rel rd (mp.sel (R.ren ι).ids) x u):=by
 intro h k j x hk hx
 cases hids:R.ids with
 | nil=>
  simp only [RowV.ren,hids] at hx ⊢
  obtain ⟨u,hu,h1,h2⟩:=h k j x hk hx
  refine ⟨u,hu,h1,?_⟩
  rw [hids,Mp.sel_nil] at h2
  simp only [zbq,Mp.sel_nil]
  exact h2
 | cons q qs=>
  simp only [RowV.ren,hids] at hx ⊢
  rw [zm] at hx
  obtain ⟨y,hy,rfl⟩:=Option.map_eq_some_iff.1 hx
  obtain ⟨u,hu,h1,h2⟩:=h k j y hk hy
  refine ⟨u,hu,h1,?_⟩
  have hly:=List.all_eq_true.1 (hl k hk) y (zp hy)
  have hle:Mp.le ((mp.pull ι).sel (q::qs)) ((mp.sel ((q::qs).map ι)).pull ι):=by
   refine ⟨fun _ _ h=>(by cases h),fun r i v e m hr=>⟨v,e,m,?_,.inr ⟨rfl,.inr ⟨rfl,rfl⟩⟩⟩⟩
   simp only [Mp.sel,Mp.pull] at hr ⊢
   split at hr
   ·rename_i hmem;rw [za (zz hmem)];exact hr
   ·cases hr
  rw [hids] at h2
  exact (qfr hly).1 (h2.mono (Rd.le.refl _) hle)
def rowsLt (n:Nat) (st:List (Nat × SO)):Prop:=∀ j ids e sz ep m f,look st j=some (.row ids e sz ep m f)→ids≠[]→∀ k,k<m→(f k).all (AV.lt1 n)=true
theorem qla {n:Nat} {st0:List (Nat × SO)} (h:rowsLt n st0) {j i:Nat} {R:RowV} (hR:IsMem st0 j i R) (hids:R.ids≠[]):∀ k,k<R.n→(R.f k).all (AV.lt1 n)=true:=by
 cases hR with
 | row hl=>exact h _ _ _ _ _ _ _ hl hids
 | fam hl hi=>exact absurd rfl hids
theorem qlb {ι:Nat→Nat} {R:RowV} {n:Nat} (hl:R.ids≠[]→∀ k,k<R.n→(R.f k).all (AV.lt1 n)=true) (hinj:∀ i j,i<n→j<n→ι i=ι j→i=j) (hids:∀ r∈R.ids,r<n) {xs:List Value} :
  (∀ (k j:Nat) x,k<R.n→(R.f k)[j]?=some x→∃ u,xs[k * R.sz+j]?=some u∧u.oneCell'=true∧Rel rd ((mp.pull ι).sel R.ids) x u) ↔
  (∀ (k j:Nat) x,k<R.n→((R.ren ι).f k)[j]?=some x→∃ u,xs[k * R.sz+j]?=some u∧u.oneCell'=true∧Rel rd (mp.sel (R.ren ι).ids) x u):=by
 cases hR:R.ids with
 | nil=>
  simp only [RowV.ren,hR,zbq,Mp.sel_nil]
 | cons q qs=>
  have hl':=hl (by rw [hR];simp)
  constructor
  ·intro h k j x hk hx
   rw [← hR] at h
   exact RowV.ren_row hl' h k j x hk hx
  ·intro h k j x hk hx
   have hly:=List.all_eq_true.1 (hl' k hk) x (zp hx)
   obtain ⟨u,hu,h1,h2⟩:=h k j (x.ren1 ι) hk (by simp only [RowV.ren,hR];rw [zm,hx];rfl)
   refine ⟨u,hu,h1,?_⟩
   have h3:=(qfr hly).2 h2
   simp only [RowV.ren,hR] at h3
   have h4:=h3.lt1 hly
   refine h4.mono (Rd.le.refl _) ⟨fun i g hg=>?_,fun r i v e m hr=>⟨v,e,m,?_,.inr ⟨rfl,.inr ⟨rfl,rfl⟩⟩⟩⟩
   ·simp only [Mp.restrict,Mp.pull,Mp.sel] at hg
    split at hg <;> cases hg
   ·simp only [Mp.restrict,Mp.pull,Mp.sel] at hr ⊢
    split at hr
    ·rename_i hrn
     split at hr
     ·rename_i hmem
      obtain ⟨r',hr',he⟩:=List.mem_map.1 hmem
      have:r'=r:=hinj r' r (hids r' (by rw [hR];exact hr')) hrn he
      subst this
      rw [za hr'];exact hr
     ·cases hr
    ·cases hr
theorem RowV.ren_len {ι:Nat→Nat} (R:RowV) (k:Nat):((R.ren ι).f k).length=(R.f k).length:=by
 cases hids:R.ids <;> simp [RowV.ren,hids]
theorem Mem.enter {ι:Nat→Nat} {st0:List (Nat × SO)} {n:Nat} (hm:Mem c rd mp st nx w) (hnm:Named st0 st ι) (hlt:stLt n st0=true) (hrows:rowsLt n st0) (hinj:∀ i j,i<n→j<n→ι i=ι j→i=j) :
  Mem ⟨w,rd,fun g=>∃ p,There st0 p∧blkOf mp (p.ren ι)=some g,stdF⟩ rd ((mp.pull ι).restrict n) st0 n w:=by
 have hid:∀ j o,look st0 j=some o→j<n∧o.lt n=true:=by
  intro j o hx
  have:=(List.all_eq_true.1 hlt) _ (qby hx)
  simp only [zh,zx] at this
  exact ⟨by omega,this.2⟩
 have hmem:∀ r i R,IsMem st0 r i R→r<n∧∀ q∈R.ids,q<n:=by
  intro r i R hR
  cases hR with
  | row hl=>
   refine ⟨(hid _ _ hl).1,fun q hq=>?_⟩
   have:=List.all_eq_true.1 (hid _ _ hl).2 q hq
   simp only [zx] at this;omega
  | fam hl _=>exact ⟨(hid _ _ hl).1,fun q hq=>by simp at hq⟩
 have hplt:∀ p,There st0 p→blkOf ((mp.pull ι).restrict n) p=blkOf mp (p.ren ι):=by
  intro p hp
  cases p with
  | bx b=>obtain ⟨ty,cs,hl⟩:=hp;simp [blkOf,Mp.restrict,Mp.pull,Pl.ren,(hid _ _ hl).1]
  | rw r i=>obtain ⟨R,hR⟩:=hp;simp [blkOf,Mp.restrict,Mp.pull,Pl.ren,(hmem _ _ _ hR).1]
 refine ⟨hm.rdw,hm.rd1,fun g o v h=>.inl h,⟨rfl,rfl,rfl,zj _,fun _ _ _=>rfl⟩,fun b ty cs hl=>?_,fun r i R hR=>?_,fun p q g hp hq hgp hgq=>?_,fun i hi=>by simp only [stdF] at hi;simp [Mp.restrict,Nat.not_lt.2 hi],fun i x hx=>by simp only [stdF,Nat.not_le];exact (hid i x hx).1,fun r e sz cnt ep len f hl i hi=>?_,fun r sz ep n' f hl=>?_,⟨hm.tabR,fun t ht hf=>?_⟩,Rd.le.refl _⟩
 ·obtain ⟨hb,hcs⟩:=hid _ _ hl
  obtain ⟨g,vs,h1,h2,h3,h4,h5,h6⟩:=hm.bx (ι b) ty _ (hnm.at_ _ _ hl)
  refine ⟨g,vs,by simp [Mp.restrict,Mp.pull,hb,h1],h2,by simpa using h3,fun j x v hx hv=>?_,h5,.inr ⟨.bx b,⟨ty,cs,hl⟩,h1⟩⟩
  have hx1:=List.all_eq_true.1 hcs x (zp hx)
  exact ((qfr hx1).2 (h4 j _ v (by rw [zm,hx];rfl) hv)).lt1 hx1
 ·obtain ⟨hr,hids⟩:=hmem r i R hR
  obtain ⟨v,xs,h1,h2,h3,h4,h5⟩:=hm.mb (ι r) i _ (hnm.mem hR)
  refine ⟨v,xs,by simp [Mp.restrict,Mp.pull,hr];exact h1,h2,fun k hk=>?_,?_,fun g hg=>⟨(h5 g hg).1,.inr ⟨.rw r i,⟨R,hR⟩,by simp only [blkOf,Pl.ren];rw [h1];simpa using hg⟩⟩⟩
  ·rw [← RowV.ren_len (ι:=ι)];exact h3 k hk
  ·rw [Mp.restrict_sel (by rw [zak];intro q hq;have:=hids q hq;simp only [zx];omega)]
   exact (qlb (fun hne=>qla hrows hR hne) hinj hids).2 h4
 ·rw [hplt p hp] at hgp
  rw [hplt q hq] at hgq
  have he:=hm.inj _ _ g (hnm.there hp) (hnm.there hq) hgp hgq
  cases p with
  | bx b=>
   cases q with
   | bx b'=>
    obtain ⟨ty,cs,hl⟩:=hp
    obtain ⟨ty',cs',hl'⟩:=hq
    simp only [Pl.ren,Pl.bx.injEq] at he
    rw [hinj b b' (hid _ _ hl).1 (hid _ _ hl').1 he]
   | rw r i=>simp [Pl.ren] at he
  | rw r i=>
   cases q with
   | bx b'=>simp [Pl.ren] at he
   | rw r' i'=>
    obtain ⟨R,hR⟩:=hp
    obtain ⟨R',hR'⟩:=hq
    simp only [Pl.ren,Pl.rw.injEq] at he
    obtain ⟨he1,rfl⟩:=he
    rw [hinj r r' (hmem _ _ _ hR).1 (hmem _ _ _ hR').1 he1]
 ·have:=hm.out (ι r) e sz cnt ep len f (hnm.at_ _ _ hl) i hi
  simp [Mp.restrict,Mp.pull,this]
 ·obtain ⟨v,h1,h2⟩:=hm.ro (ι r) sz ep n' f (hnm.at_ _ _ hl)
  exact ⟨v,by simp [Mp.restrict,Mp.pull,(hid _ _ hl).1,h1],h2⟩
 ·obtain ⟨p,hp,hg⟩:=hf
  exact (hm.tabR t ht).1 ((hm.home (hnm.there hp) hg).2.1 0)
def qp (ι:Nat→Nat) (st:List (Nat × SO)):List (Nat × SO):=st.map fun p=>(ι p.1,p.2.ren ι)
def qx (is:List Nat):List (Nat × SO)→List (Nat × SO)
 | []=>[]
 | (j,o)::r=>bif is.any (Nat.beq j) then qx is r else (j,o)::qx is r
theorem qbp {α:Type} (l m:List (Nat × α)) (y:Nat):look (l++m) y=match look l y with|some x=>some x|none=>look m y:=by
 induction l with
 | nil=>simp [look]
 | cons p l ih=>
  obtain ⟨j,o⟩:=p
  rw [List.cons_append,qh,qh,ih]
  split <;> rfl
theorem qty (is:List Nat) (j:Nat):is.any (Nat.beq j)=decide (j∈is):=by
 rw [Bool.eq_iff_iff,zat,xp]
 constructor
 ·rintro ⟨x,hx,he⟩;rw [zq he];exact hx
 ·intro h;exact ⟨j,h,Nat.beq_refl j⟩
theorem qft (is:List Nat) (st:List (Nat × SO)) (y:Nat):look (qx is st) y=if y∈is then none else look st y:=by
 induction st with
 | nil=>simp [qx,look]
 | cons p r ih=>
  obtain ⟨j,o⟩:=p
  simp only [qx,qty]
  by_cases hj:j∈is
  ·simp only [hj,decide_true,cond_true,ih,qh]
   by_cases hy:y∈is
   ·simp [hy]
   ·rw [ze hy,ze hy,ze (by rintro rfl;exact hy hj)]
  ·simp only [hj,decide_false,cond_false,qh,ih]
   by_cases hy:y∈is
   ·rw [za hy,za hy,ze (by rintro rfl;exact hj hy)]
   ·rw [ze hy,ze hy]
theorem qtz {is:List Nat} {nx:Nat} (hd:is.Nodup) (hlt:∀ i∈is,i<nx) (st1:List (Nat × SO)) (y:Nat) :
  look (qp (names is nx) st1) y=match inv is nx y with|some j=>(look st1 j).map (SO.ren (names is nx))|none=>none:=by
 induction st1 with
 | nil=>cases inv is nx y <;> rfl
 | cons p r ih=>
  obtain ⟨j,o⟩:=p
  simp only [qp,zag] at ih ⊢
  rw [qh,ih]
  by_cases hy:names is nx j=y
  ·rw [za hy,← hy,qdx hd hlt]
   simp only
   rw [qh,za rfl];rfl
  ·rw [ze hy]
   cases hi:inv is nx y with
   | none=>rfl
   | some j'=>
    simp only
    rw [qh,ze (fun e=>hy (by rw [e];exact qdy hi))]
theorem qbj {is:List Nat} {nx:Nat} (hd:is.Nodup) (hlt:∀ i∈is,i<nx) (hst:∀ i x,look st i=some x→i<nx) (st1:List (Nat × SO)) (y:Nat) :
  look (qp (names is nx) st1++qx is st) y=match inv is nx y with|some j=>(look st1 j).map (SO.ren (names is nx))|none=>look st y:=by
 rw [qbp,qtz hd hlt,qft]
 cases hi:inv is nx y with
 | none=>
  simp only
  rw [ze]
  intro hm
  simp [inv,hm] at hi
 | some j=>
  simp only
  cases hl:look st1 j with
  | some o=>rfl
  | none=>
   simp only [Option.map_none]
   by_cases hm:y∈is
   ·rw [za hm]
   ·rw [ze hm]
    cases hs:look st y with
    | none=>rfl
    | some x=>
     have:=hst y x hs
     simp [inv,hm,Nat.not_le.2 this] at hi
theorem qua {is:List Nat} {nx:Nat} (hd:is.Nodup) (hlt:∀ i∈is,i<nx) (hst:∀ i x,look st i=some x→i<nx) {st1:List (Nat × SO)} {y i:Nat} {R:RowV} (hR:IsMem (qp (names is nx) st1++qx is st) y i R) :
  (∃ j R0,names is nx j=y∧IsMem st1 j i R0∧R=R0.ren (names is nx))∨(inv is nx y=none∧IsMem st y i R):=by
 have hb:=qbj (st:=st) hd hlt hst st1 y
 cases hi:inv is nx y with
 | none=>
  rw [hi] at hb
  simp only at hb
  refine .inr ⟨rfl,?_⟩
  cases hR with
  | row hl=>rw [hb] at hl;exact .row hl
  | fam hl h=>rw [hb] at hl;exact .fam hl h
 | some j=>
  rw [hi] at hb
  simp only at hb
  refine .inl ⟨j,?_⟩
  cases hR with
  | row hl=>
   rw [hb] at hl
   obtain ⟨o,ho,he⟩:=Option.map_eq_some_iff.1 hl
   cases o with
   | box=>simp [SO.ren] at he
   | fam=>simp [SO.ren] at he
   | ro=>simp [SO.ren] at he
   | row ids e sz ep n f=>
    simp only [SO.ren,SO.row.injEq] at he
    obtain ⟨rfl,rfl,rfl,rfl,rfl,rfl⟩:=he
    exact ⟨⟨ids,_,_,_,_,f⟩,qdy hi,.row ho,rfl⟩
  | fam hl h=>
   rw [hb] at hl
   obtain ⟨o,ho,he⟩:=Option.map_eq_some_iff.1 hl
   cases o with
   | box=>simp [SO.ren] at he
   | row=>simp [SO.ren] at he
   | ro=>simp [SO.ren] at he
   | fam e sz cnt ep len f=>
    simp only [SO.ren,SO.fam.injEq] at he
    obtain ⟨rfl,rfl,rfl,rfl,rfl,rfl⟩:=he
    exact ⟨⟨[],_,_,_,_,_⟩,qdy hi,.fam ho h,rfl⟩
theorem qox {is:List Nat} {nx:Nat} (hd:is.Nodup) (hlt:∀ i∈is,i<nx) {i j:Nat} (h:names is nx i=names is nx j):i=j:=by
 have h1:=qdx hd hlt i
 rw [h,qdx hd hlt j] at h1
 cases h1;rfl
theorem Mem.leave {is:List Nat} {st0 st1:List (Nat × SO)} {n1:Nat} (hm:Mem c rd mp st nx w) (hstd:c.fre=stdF) (hd:is.Nodup) (hlt:∀ i∈is,i<nx) (hnm:Named st0 st (names is nx)) (hr:Rd.le rd rd')
  (hm':Mem ⟨w,rd,fun g=>∃ p,There st0 p∧blkOf mp (p.ren (names is nx))=some g,stdF⟩ rd' mp' st1 n1 w') (hn1:is.length≤n1) (hlt1:stLt n1 st1=true) (hrows:rowsLt n1 st1) (hp:Mp.le ((mp.pull (names is nx)).restrict is.length) mp') :
  Mp.le mp (mp.back mp' is nx)∧Mem c rd' (mp.back mp' is nx) (qp (names is nx) st1++qx is st) (nx+(n1 - is.length)) w':=by
 have hmids:∀ i x,look st i=some x→i<nx:=fun i x hx=>by have:=hm.ids i x hx;rw [hstd] at this;simp only [stdF] at this;omega
 have hpull:=qow (mp:=mp) (mp':=mp') hd hlt
 have hle:Mp.le mp (mp.back mp' is nx):=by
  refine ⟨fun y g hg=>?_,fun y i v e n hg=>?_⟩
  ·simp only [Mp.back]
   cases hi:inv is nx y with
   | none=>exact hg
   | some j=>
    simp only
    have hy:=qdy hi
    have hj:j<is.length:=by
     unfold inv at hi
     split at hi
     ·rename_i hmem;cases hi;exact zbg hmem
     ·split at hi
      ·rename_i hge;rw [(hm.fresh y (by rw [hstd];exact hge)).1] at hg;cases hg
      ·cases hi
    exact hp.blk j g (by simp [Mp.restrict,Mp.pull,hj,hy,hg])
  ·simp only [Mp.back]
   cases hi:inv is nx y with
   | none=>exact ⟨v,e,n,hg,.inr ⟨rfl,.inr ⟨rfl,rfl⟩⟩⟩
   | some j=>
    simp only
    have hy:=qdy hi
    have hj:j<is.length:=by
     unfold inv at hi
     split at hi
     ·rename_i hmem;cases hi;exact zbg hmem
     ·split at hi
      ·rename_i hge;rw [(hm.fresh y (by rw [hstd];exact hge)).2] at hg;cases hg
      ·cases hi
    exact hp.row j i v e n (by simp [Mp.restrict,Mp.pull,hj,hy,hg])
 have hid1:∀ j o,look st1 j=some o→j<n1∧o.lt n1=true:=by
  intro j o hx
  have:=(List.all_eq_true.1 hlt1) _ (qby hx)
  simp only [zh,zx] at this
  exact ⟨by omega,this.2⟩
 have hfx:∀ g,(∃ p,There st0 p∧blkOf mp (p.ren (names is nx))=some g)→c.w0.heap.size≤g∨c.fx g:=by
  rintro g ⟨p,hp',hg⟩
  exact (hm.home (hnm.there hp') hg).2.2
 -- a place of the frame is none of the callee's
 have hframe:∀ p g,There st p→(match p with | .bx b=>inv is nx b | .rw r _=>inv is nx r)=none→blkOf mp p=some g→¬ ∃ q,There st0 q∧blkOf mp (q.ren (names is nx))=some g:=by
  rintro p g hp' hi hg ⟨q,hq,hgq⟩
  have he:=hm.inj p _ g hp' (hnm.there hq) hg hgq
  cases q with
  | bx b=>
   simp only [Pl.ren] at he
   subst he
   simp only [qdx hd hlt] at hi
   cases hi
  | rw r i=>
   simp only [Pl.ren] at he
   subst he
   simp only [qdx hd hlt] at hi
   cases hi
 have hkeep:∀ p g,There st p→(match p with | .bx b=>inv is nx b | .rw r _=>inv is nx r)=none→blkOf mp p=some g→w'.heap[g]?=w.heap[g]?∧∀ o,rd' g o=none:=by
  intro p g hp' hi hg
  obtain ⟨h1,h2,_⟩:=hm.home hp' hg
  refine ⟨hm'.fr.block g h1 (hframe p g hp' hi hg),fun o=>?_⟩
  cases hv:rd' g o with
  | none=>rfl
  | some v=>
   rcases hm'.rdn g o v hv with h|h|h
   ·have h':rd g o=some v:=h
    rw [h2 o] at h';cases h'
   ·have h':w.heap.size≤g:=h
    omega
   ·exact absurd h (hframe p g hp' hi hg)
 have hnew:∀ p g,There st1 p→blkOf mp' p=some g→(c.w0.heap.size≤g∨c.fx g)∧(w.heap.size≤g∨∃ q,There st0 q∧blkOf mp (q.ren (names is nx))=some g):=by
  intro p g hp' hg
  rcases (hm'.home hp' hg).2.2 with h|h
  ·have h':w.heap.size≤g:=h
   exact ⟨.inl (zr hm.fr.size h'),.inl h'⟩
  ·exact ⟨hfx g h,.inr h⟩
 have hblk1:∀ p,blkOf (mp.back mp' is nx) (p.ren (names is nx))=blkOf mp' p:=by
  intro p
  rw [← jds,hpull]
 have hblk0:∀ p:Pl,(match p with | .bx b=>inv is nx b | .rw r _=>inv is nx r)=none→blkOf (mp.back mp' is nx) p=blkOf mp p:=by
  intro p hi
  cases p with
  | bx b=>simp only at hi;simp [blkOf,Mp.back,hi]
  | rw r i=>simp only at hi;simp [blkOf,Mp.back,hi]
 -- a place of the new store
 have hcase:∀ p,There (qp (names is nx) st1++qx is st) p→(∃ q,There st1 q∧p=q.ren (names is nx))∨(There st p∧(match p with | .bx b=>inv is nx b | .rw r _=>inv is nx r)=none):=by
  intro p hp'
  cases p with
  | bx b=>
   obtain ⟨ty,cs,hl⟩:=hp'
   rw [qbj hd hlt hmids] at hl
   cases hi:inv is nx b with
   | none=>rw [hi] at hl;exact .inr ⟨⟨ty,cs,hl⟩,hi⟩
   | some j=>
    rw [hi] at hl
    obtain ⟨o,ho,he⟩:=Option.map_eq_some_iff.1 hl
    obtain ⟨cs0,rfl,_⟩:=SO.ren_box he
    exact .inl ⟨.bx j,⟨ty,cs0,ho⟩,by simp [Pl.ren,qdy hi]⟩
  | rw r i=>
   obtain ⟨R,hR⟩:=hp'
   rcases qua hd hlt hmids hR with ⟨j,R0,rfl,h1,_⟩|⟨hi,h1⟩
   ·exact .inl ⟨.rw j i,⟨R0,h1⟩,rfl⟩
   ·exact .inr ⟨⟨R,h1⟩,hi⟩
 refine ⟨hle,hm'.rdw,hm'.rd1,fun g o v hv=>?_,⟨hm'.fr.os.trans hm.fr.os,hm'.fr.tape.trans hm.fr.tape,hm'.fr.output.trans hm.fr.output,zr hm.fr.size hm'.fr.size,fun k hk hf=>?_⟩,fun b ty cs hl=>?_,fun r i R hR=>?_,fun p q g hp' hq' hgp hgq=>?_,fun y hy=>?_,fun y x hx=>?_,fun r e sz cnt ep len f hl i hi=>?_,fun r sz ep n f hl=>?_,hm.tab.1,hm.tab.2.trans hm'.tab.2⟩
 ·rcases hm'.rdn g o v hv with h|h|h
  ·exact hm.rdn g o v h
  ·exact .inr (.inl (zr hm.fr.size h))
  ·exact .inr (hfx g h)
 ·rw [← hm.fr.block k hk hf]
  refine hm'.fr.block k (zbe hk hm.fr.size) (fun h=>?_)
  rcases hfx k h with h|h
  ·omega
  ·exact hf h
 ·rw [qbj hd hlt hmids] at hl
  cases hi:inv is nx b with
  | none=>
   rw [hi] at hl
   exact (hm.bx b ty cs hl).keep hr hle (fun g hg=>hkeep (.bx b) g ⟨ty,cs,hl⟩ hi hg)
  | some j=>
   rw [hi] at hl
   obtain ⟨o,ho,he⟩:=Option.map_eq_some_iff.1 hl
   obtain ⟨cs0,rfl,rfl⟩:=SO.ren_box he
   obtain ⟨g,vs,h1,h2,h3,h4,h5,h6⟩:=hm'.bx j ty cs0 ho
   refine ⟨g,vs,by simp [Mp.back,hi,h1],h2,by simpa using h3,?_,h5,(hnew (.bx j) g ⟨ty,cs0,ho⟩ h1).1⟩
   refine (qfs (ι:=names is nx) (n:=n1) (hid1 _ _ ho).2).1 ?_
   rw [hpull]
   exact h4
 ·rcases qua hd hlt hmids hR with ⟨j,R0,rfl,h1,rfl⟩|⟨hi,h1⟩
  ·obtain ⟨v,xs,g1,g2,g3,g4,g5⟩:=hm'.mb j i R0 h1
   refine ⟨v,xs,by simp only [Mp.back,qdx hd hlt];exact g1,g2,fun k hk=>by rw [RowV.ren_len];exact g3 k hk,?_,fun g hg=>⟨(g5 g hg).1,(hnew (.rw j i) g ⟨R0,h1⟩ (by simp [blkOf,g1,hg])).1⟩⟩
   have hids:∀ q∈R0.ids,q<n1:=by
    intro q hq
    cases h1 with
    | row hl=>
     have:=List.all_eq_true.1 (hid1 _ _ hl).2 q hq
     simp only [zx] at this;omega
    | fam hl _=>simp at hq
   refine (qlb (ι:=names is nx) (n:=n1) (fun hne=>qla hrows h1 hne) (fun i j _ _ h=>qox hd hlt h) hids).1 ?_
   rw [hpull]
   exact g4
  ·exact (hm.mb r i R h1).keep hr hle (by simp [Mp.back,hi]) (fun g hg=>hkeep (.rw r i) g ⟨R,h1⟩ hi hg)
 ·rcases hcase p hp' with ⟨p0,h0,rfl⟩|⟨h0,hi0⟩
  ·rw [hblk1] at hgp
   rcases hcase q hq' with ⟨q0,k0,rfl⟩|⟨k0,ki0⟩
   ·rw [hblk1] at hgq
    rw [hm'.inj p0 q0 g h0 k0 hgp hgq]
   ·rw [hblk0 q ki0] at hgq
    exfalso
    rcases (hnew p0 g h0 hgp).2 with h|h
    ·have:=(hm.home k0 hgq).1;omega
    ·exact hframe q g k0 ki0 hgq h
  ·rw [hblk0 p hi0] at hgp
   rcases hcase q hq' with ⟨q0,k0,rfl⟩|⟨k0,ki0⟩
   ·rw [hblk1] at hgq
    exfalso
    rcases (hnew q0 g k0 hgq).2 with h|h
    ·have:=(hm.home h0 hgp).1;omega
    ·exact hframe p g h0 hi0 hgp h
   ·rw [hblk0 q ki0] at hgq
    exact hm.inj p q g h0 k0 hgp hgq
 ·rw [hstd] at hy
  simp only [stdF] at hy
  have hinv:inv is nx y=some (is.length+(y - nx)):=by
   unfold inv
   rw [ze (fun hmem=>by have:=hlt y hmem;omega),za (by omega)]
  have:=hm'.fresh (is.length+(y - nx)) (by simp only [stdF];omega)
  simp only [Mp.back,hinv]
  exact this
 ·rw [qbj hd hlt hmids] at hx
  cases hi:inv is nx y with
  | none=>rw [hi] at hx;have:=hmids y x hx;rw [hstd];simp only [stdF];omega
  | some j=>
   rw [hi] at hx
   obtain ⟨o,ho,_⟩:=Option.map_eq_some_iff.1 hx
   have hj:=(hid1 j o ho).1
   have hy:=qdy hi
   rw [← hy,hstd]
   simp only [stdF,Nat.not_le]
   unfold names
   split
   ·rename_i hjl
    have:is.getD j 0∈is:=by simp [List.getD,hjl]
    have:=hlt _ this
    omega
   ·omega
 ·rw [qbj hd hlt hmids] at hl
  cases hin:inv is nx r with
  | none=>
   rw [hin] at hl
   simp only [Mp.back,hin]
   exact hm.out _ _ _ _ _ _ _ hl i hi
  | some j=>
   rw [hin] at hl
   obtain ⟨o,ho,he⟩:=Option.map_eq_some_iff.1 hl
   cases o with
   | box=>simp [SO.ren] at he
   | row=>simp [SO.ren] at he
   | ro=>simp [SO.ren] at he
   | fam e0 sz0 cnt0 ep0 len0 f0=>
    simp only [SO.ren,SO.fam.injEq] at he
    obtain ⟨rfl,rfl,rfl,rfl,rfl,rfl⟩:=he
    simp only [Mp.back,hin]
    exact hm'.out _ _ _ _ _ _ _ ho i hi
 ·rw [qbj hd hlt hmids] at hl
  cases hin:inv is nx r with
  | none=>
   rw [hin] at hl
   obtain ⟨v,h1,h2⟩:=hm.ro _ _ _ _ _ hl
   exact ⟨v,by simp only [Mp.back,hin];exact h1,h2.mono hr (Mp.le.refl _)⟩
  | some j=>
   rw [hin] at hl
   obtain ⟨o,ho,he⟩:=Option.map_eq_some_iff.1 hl
   cases o with
   | box=>simp [SO.ren] at he
   | row=>simp [SO.ren] at he
   | fam=>simp [SO.ren] at he
   | ro sz0 ep0 n0 f0=>
    simp only [SO.ren,SO.ro.injEq] at he
    obtain ⟨rfl,rfl,rfl,rfl⟩:=he
    obtain ⟨v,h1,h2⟩:=hm'.ro _ _ _ _ _ ho
    exact ⟨v,by simp only [Mp.back,hin];exact h1,h2⟩
theorem SoLe.refl (o:SO):SoLe o o:=by
 cases o with
 | box=>exact ⟨rfl,LeL.refl _⟩
 | row=>exact ⟨⟨rfl,rfl,rfl⟩,rfl,rfl,fun _ _=>LeL.refl _⟩
 | fam=>exact ⟨⟨rfl,rfl⟩,rfl,fun _ _=>⟨rfl,rfl⟩,fun _ _ _ _=>LeL.refl _⟩
 | ro=>exact ⟨rfl,rfl,rfl,fun _ _=>rfl⟩
def SubL (st st':List (Nat × SO)):Prop:=∀ i x,look st' i=some x→∃ y,look st i=some y∧SoLe y x
theorem SubL.box {st':List (Nat × SO)} (h:SubL st st') {b:Nat} {ty:TypeId} {cs:List AV} (hl:look st' b=some (.box ty cs)):∃ cs',look st b=some (.box ty cs')∧LeL cs' cs:=by
 obtain ⟨y,hy,hle⟩:=h b _ hl
 cases y with
 | box t c=>obtain ⟨rfl,hc⟩:=hle;exact ⟨c,hy,hc⟩
 | row=>exact False.elim hle
 | fam=>exact False.elim hle
 | ro=>exact False.elim hle
theorem SubL.mem {st':List (Nat × SO)} (h:SubL st st') {r i:Nat} {R:RowV} (hR:IsMem st' r i R):∃ R',IsMem st r i R'∧R'.ids=R.ids∧R'.e=R.e∧R'.sz=R.sz∧R'.ep=R.ep∧R'.n=R.n∧∀ k,k<R'.n→LeL (R'.f k) (R.f k):=by
 cases hR with
 | row hl=>
  obtain ⟨y,hy,hle⟩:=h _ _ hl
  cases y with
  | box=>exact False.elim hle
  | row ids e sz ep n f=>obtain ⟨⟨rfl,rfl,rfl⟩,rfl,rfl,hf⟩:=hle;exact ⟨_,.row hy,rfl,rfl,rfl,rfl,rfl,hf⟩
  | fam=>exact False.elim hle
  | ro=>exact False.elim hle
 | fam hl hi=>
  obtain ⟨y,hy,hle⟩:=h _ _ hl
  cases y with
  | box=>exact False.elim hle
  | row=>exact False.elim hle
  | ro=>exact False.elim hle
  | fam e sz cnt ep len f=>
   obtain ⟨⟨rfl,rfl⟩,rfl,h1,hf⟩:=hle
   exact ⟨_,.fam hy hi,rfl,rfl,rfl,(h1 _ hi).1,(h1 _ hi).2,fun k hk=>hf _ k hi hk⟩
theorem Mem.weak (hm:Mem c rd mp st nx w) {st':List (Nat × SO)} (hs:SubL st st'):Mem c rd mp st' nx w:=by
 have old:∀ p,There st' p→There st p:=by
  intro p hp
  cases p with
  | bx b=>obtain ⟨ty,cs,hl⟩:=hp;obtain ⟨cs',h,_⟩:=hs.box hl;exact ⟨ty,cs',h⟩
  | rw r i=>obtain ⟨R,hR⟩:=hp;obtain ⟨R',h,_⟩:=hs.mem hR;exact ⟨R',h⟩
 refine ⟨hm.rdw,hm.rd1,hm.rdn,hm.fr,fun b ty cs hl=>?_,fun r i R hR=>?_,fun p q g hp hq=>hm.inj p q g (old p hp) (old q hq),hm.fresh,fun i x hx=>?_,fun r e sz cnt ep len f hl i hi=>?_,fun r sz ep n f hl=>?_,hm.tab⟩
 ·obtain ⟨cs',hl',hle⟩:=hs.box hl
  obtain ⟨g,vs,h1,h2,h3,h4,h5,h6⟩:=hm.bx b ty cs' hl'
  refine ⟨g,vs,h1,h2,by rw [h3,hle.get.1],fun j z v hz hv=>?_,h5,h6⟩
  have hj:j<cs'.length:=by rw [hle.get.1];exact (List.getElem?_eq_some_iff.1 hz).1
  exact (hle.get.2 j cs'[j] z (zb hj) hz).rel (h4 j cs'[j] v (zb hj) hv)
 ·obtain ⟨R',hR',h1,h2,h3,h4,h5,h6⟩:=hs.mem hR
  exact (hm.mb r i R' hR').le h1 h2 h3 h4 h5 h6
 ·obtain ⟨y,hy,_⟩:=hs i x hx
  exact hm.ids i y hy
 ·obtain ⟨y,hy,hle⟩:=hs _ _ hl
  cases y with
  | box=>exact False.elim hle
  | row=>exact False.elim hle
  | ro=>exact False.elim hle
  | fam e0 sz0 cnt0 ep0 len0 f0=>
   obtain ⟨_,rfl,_⟩:=hle
   exact hm.out _ _ _ _ _ _ _ hy i hi
 ·obtain ⟨y,hy,hle⟩:=hs _ _ hl
  cases y with
  | box=>exact False.elim hle
  | row=>exact False.elim hle
  | fam=>exact False.elim hle
  | ro sz0 ep0 n0 f0=>
   obtain ⟨rfl,rfl,rfl,hf⟩:=hle
   obtain ⟨v,h1,h2⟩:=hm.ro _ _ _ _ _ hy
   exact ⟨v,h1,(Le.slc rfl hf).rel h2⟩
def NamedL (st:List (Nat × SO)) (ι:Nat→Nat):List Nat→List SO→Prop
 | [],[]=>True
 | i::is,o::os=>(match look st i with|some y=>SoLe y (o.ren ι)|none=>False)∧NamedL st ι is os
 | _,_=>False
theorem NamedL.get {ι:Nat→Nat}:∀ {is:List Nat} {os:List SO},NamedL st ι is os→is.length=os.length∧∀ (j:Nat) o,os[j]?=some o→∃ y,look st (is.getD j 0)=some y∧SoLe y (o.ren ι)
 | [],[],_=>⟨rfl,fun j o h=>by simp at h⟩
 | i::is,o::os,h=>by
  obtain ⟨h1,h2⟩:=NamedL.get h.2
  refine ⟨by simp [h1],fun j o' ho=>?_⟩
  cases j with
  | zero=>
   simp only [zao,Option.some.injEq] at ho
   subst ho
   have h0:=h.1
   split at h0
   ·rename_i y hy;exact ⟨y,by simpa using hy,h0⟩
   ·exact False.elim h0
  | succ j=>simp only [zan] at ho;simpa using h2 j o' ho
 | [],_::_,h=>False.elim h
 | _::_,[],h=>False.elim h
def qij:List Nat→Bool
 | []=>true
 | i::is=>!is.any (Nat.beq i) && qij is
theorem qlc:∀ {is:List Nat},qij is=true→is.Nodup
 | [],_=>zbh
 | i::is,h=>by
  simp only [qij,zh,xr,qty,decide_eq_false_iff_not] at h
  exact List.nodup_cons.2 ⟨h.1,qlc h.2⟩
def qgy (is:List Nat) (nx:Nat) (args:List AV) (st0:List SO) (res:AV) (st1:List (Nat × SO)) (n1:Nat):Bool:=
 qij is && is.all (fun i=>Nat.ble (i+1) nx) && stLt st0.length (idx 0 st0) && args.all (AV.lt st0.length) && stLt n1 st1 && res.lt n1 && Nat.ble st0.length n1
theorem jm {sl:List (Nat × AV)} {E:Env} {B:Nat→ASt→Prop} {f:FuncId} {args:List AV} {dst:Option Nat} {full:Array Oper} {rest:List Oper} {k:List Itm} (hT:∀ t,E.T t=tab E.P t) (n:Nat) (is:List Nat) {args':List AV} {st0:List SO} {res:AV} {st1:List (Nat × SO)} {n1:Nat}
  (ht:Trip E.P f args' st0 res st1 n1) (hchk:qgy is nx args' st0 res st1 n1=true) (hl:LeL args (args'.map (AV.ren (names is nx)))) (hnm:NamedL st (names is nx) is st0) (hr0:rowsLt st0.length (idx 0 st0)) (hr1:rowsLt n1 st1) (hd:qz E dst=true)
  (h:frcN (nx+(n1 - is.length)) fun nx'=>je (qp (names is nx) st1++qx is st) fun st'=>frc (res.ren (names is nx)) (qt sl dst (fun sl'=>exec E B n (.ops full rest::k) ⟨sl',st',nx'⟩))) :
  qaa E B f args dst full rest k ⟨sl,st,nx⟩:=by
 rw [qu,jq,jr,ja,qfo] at h
 simp only [qgy,zh,zx] at hchk
 obtain ⟨⟨⟨⟨⟨⟨c1,c2⟩,c3⟩,c4⟩,c5⟩,c6⟩,c7⟩:=hchk
 have hnd:=qlc c1
 have hlt:∀ i∈is,i<nx:=fun i hi=>by have:=List.all_eq_true.1 c2 i hi;simp only [zx] at this;omega
 obtain ⟨hlen,hnm'⟩:=hnm.get
 unfold qaa
 intro rd mp a w vs hs hrd hsz hargs
 have hsi:∀ i x,look st i=some x→i<nx:=fun i x hx=>by have:=hs.mem.ids i x hx;rw [hrd.std] at this;simp only [stdF] at this;omega
 -- the store, aS the contract tells of it
 have hsub:SubL st (qp (names is nx) (idx 0 st0)++qx is st):=by
  intro y x hx
  rw [qbj hnd hlt hsi] at hx
  cases hi:inv is nx y with
  | none=>rw [hi] at hx;exact ⟨x,hx,SoLe.refl x⟩
  | some j=>
   rw [hi] at hx
   obtain ⟨o,ho,rfl⟩:=Option.map_eq_some_iff.1 hx
   rw [qkz,za (zv _),zbr] at ho
   obtain ⟨z,hz,hle⟩:=hnm' j o ho
   have hj:j<is.length:=by rw [hlen];exact (List.getElem?_eq_some_iff.1 ho).1
   have hy:=qdy hi
   unfold names at hy
   rw [za hj] at hy
   rw [← hy]
   exact ⟨z,hz,hle⟩
 have hm1:=hs.mem.weak hsub
 have hnamed:Named (idx 0 st0) (qp (names is nx) (idx 0 st0)++qx is st) (names is nx):=by
  refine ⟨fun j o hj=>?_⟩
  rw [qbj hnd hlt hsi,qdx hnd hlt]
  simp only
  rw [hj];rfl
 have hent:=hm1.enter hnamed c3 hr0 (fun i j _ _ h=>qox hnd hlt h)
 have hargs0:RelL rd ((mp.pull (names is nx)).restrict st0.length) args' vs:=by
  have h1:=hargs.le hl
  refine ⟨by rw [h1.1,xq],fun j x v hx hv=>?_⟩
  have hxl:=List.all_eq_true.1 c4 x (zp hx)
  exact ((qet hxl).2 (h1.2 j _ v (by rw [zm,hx];rfl) hv)).lt hxl
 refine (ht _ rd _ w vs rfl rfl rfl hent hargs0).mono ?_ (fun _ _ h=>False.elim h)
 rintro v w' ⟨rd',mp',h1,h2,h3,h4⟩
 rw [← hlen] at h3
 obtain ⟨hle,hfin⟩:=hm1.leave hrd.std hnd hlt hnamed h2 h4 (by omega) c5 hr1 h3
 have hfin':Mem E.c rd' (mp.back mp' is nx) (qp (names is nx) st1++qx is st) (nx+(n1 - is.length)) w':=by
  refine hfin.forget (fun y x hx=>?_)
  have e1:=qbj (st:=st) hnd hlt hsi st1 y
  have e2:=qbj (st:=qp (names is nx) (idx 0 st0)++qx is st) hnd hlt (fun i x hx=>by have:=hm1.ids i x hx;rw [hrd.std] at this;simp only [stdF] at this;omega) st1 y
  have e3:=qbj (st:=st) hnd hlt hsi (idx 0 st0) y
  rw [e1] at hx
  refine e2.trans ?_
  cases hi:inv is nx y with
  | none=>
   rw [hi] at hx e3
   exact e3.trans hx
  | some j=>
   rw [hi] at hx
   exact hx
 have hres:Rel rd' (mp.back mp' is nx) (res.ren (names is nx)) v:=by
  refine (qet c6).1 ?_
  rw [qow hnd hlt]
  exact h1
 exact qba hT n _ _ h rd' _ _ w' (hs.put h2 hle hfin' hres (qci hd hsz)) (hrd.step h2 hle) (by rw [qch];exact hsz)
def qoy (res:AV) (st1:List (Nat × SO)):List (Nat × SO)→Nat→AV→Prop:=fun st _ v=>Le v res∧SubSt st st1
theorem jdt {P:Program} {T:Nat→TI} {C:Cfg} {f:FuncId} {fn:Func} {body:Code} {args:List AV} {st0:List SO} {res:AV} {st1:List (Nat × SO)} {n1:Nat} (n:Nat) (hT:∀ t,T t=tab P t) (hf:P.funcs[f]?=some fn) (hb:fn.body=some body)
  (hname : (fn.name == "runtime.NumGoroutine") = false) (hn : (Nat.ble args.length fn.ntmps && stLt n1 st1 && res.lt n1 && Nat.ble st0.length n1) = true)
  (h:∀ (c:Ctx) (rdb:Rd) (mpb:Mp),exec { P:=P,T:=T,C:=C,fn:=fn,c:=c,rdb:=rdb,mpb:=mpb,nxb:=st0.length,R:=qoy res st1,X:=fun _ _ _=>False } (fun _ _=>False) n [.code body] ⟨qdk 0 args,idx 0 st0,st0.length⟩):Trip P f args st0 res st1 n1:=by
 intro c rd mp w vs hw hrd0 hstd hm hargs
 simp only [zh,zx] at hn
 obtain ⟨⟨⟨n1',n2⟩,n3⟩,n4⟩:=hn
 have hname' : fn.name ≠ "runtime.NumGoroutine" := by simpa using hname
 refine .inl ⟨by simp [callFunc,hf,hname',hb,mark],?_⟩
 have hok:=qba (E:={ P:=P,T:=T,C:=C,fn:=fn,c:=c,rdb:=rd,mpb:=mp,nxb:=st0.length,R:=qoy res st1,X:=fun _ _ _=>False }) (B:=fun _ _=>False) hT n _ _ (h c rd mp)
 obtain ⟨hsl,hsz⟩:=qtg (fn:=fn) n1' hargs
 have hwp:=hok rd mp ⟨vs++Array.replicate (fn.ntmps - vs.size) undef,[]⟩ w ⟨hsl,rfl,hm⟩ ⟨Rd.le.refl _,Mp.le.refl _,fun i hi=>hm.fresh i (by rw [hstd];exact hi),hstd⟩ hsz
 refine (calls_of_wp hf hb hwp).mono fun e w' he=>?_
 match e,he with
 | .returned v,he=>
  obtain ⟨x,rd',mp',st,nx,h1,h2,h3,h4⟩:=he
  refine .inl ⟨v,rfl,rd',mp'.restrict n1,(h1.1.rel h2).lt n3,h4.rd,Mp.le_restrict h4.mp (fun i hi=>hm.fresh i (by rw [hstd];simp only [stdF];omega)),h3.sub hstd h1.2 n2⟩
 | .panicked [⟨v,false,false⟩],he=>obtain ⟨x,rd',mp',st,nx,h1,_⟩:=he;exact False.elim h1
end Go.Sx
end
section
namespace Go.Sx
open Go Go.RowKit
universe u
theorem qoz (o:Oper) (p:Stp):∀ (L:List (Oper × Stp)) (i:Nat) (S:Nat→Bool) (s:ASt),stateAt (L++[(o,p)]) i S s=bif S (i+L.length) then after (stateAt L i S s) o p else stateAt L i S s
 | [],i,S,s=>by simp only [zba,stateAt,zaf,zac]
 | (o',p')::L,i,S,s=>by
  simp only [List.cons_append,stateAt,xh]
  rw [qoz o p L (i+1) S _,show i+1+L.length=i+(L.length+1) by omega]
theorem jdu:∀ (L:List (Oper × Stp)) (i:Nat) (S S':Nat→Bool) (s:ASt),(∀ j,j<L.length→S (i+j)=S' (i+j))→stateAt L i S s=stateAt L i S' s:=by
 intro L
 induction L with
 | nil=>intro i S S' s _;rfl
 | cons y L ih=>
  intro i S S' s h
  obtain ⟨o,p⟩:=y
  simp only [stateAt]
  have h0:=h 0 (by simp)
  simp only [zac] at h0
  rw [h0]
  exact ih (i+1) S S' _ (fun j hj=>by have:=h (j+1) (by simp;omega);rwa [show i+(j+1)=i+1+j by omega] at this)
end Go.Sx
end
section
namespace Go.Sx
open Go Go.RowKit


section
variable {c:Ctx} {rd rd':Rd} {mp mp':Mp} {st st':List (Nat × SO)} {nx nx':Nat} {w w':World}
def Ctx.free (c:Ctx) (F:Nat→Nat→Prop):Ctx:=⟨c.w0,c.rd0,c.fx,F⟩
theorem Fr.free {F:Nat→Nat→Prop} (h:Fr c w):Fr (c.free F) w:=⟨h.os,h.tape,h.output,h.size,h.block⟩
theorem Mem.refre {F:Nat→Nat→Prop} (h:Mem c rd mp st nx w) (hf:∀ i,F nx' i→c.fre nx i):Mem (c.free F) rd mp st nx' w:=
 ⟨h.rdw,h.rd1,h.rdn,h.fr.free,h.bx,h.mb,h.inj,fun i hi=>h.fresh i (hf i hi),fun i x hx hi=>h.ids i x hx (hf i hi),h.out,h.ro,h.tab⟩
theorem Ctx.free_free (c:Ctx) (F G:Nat→Nat→Prop):(c.free F).free G=c.free G:=rfl
theorem Ctx.free_self (c:Ctx):c.free c.fre=c:=rfl
def inv2 (a n1 y:Nat):Option Nat:=if a≤y∧y<a+n1 then some (y - a) else none
theorem qub {a n1 y j:Nat} (h:inv2 a n1 y=some j):j<n1∧y=a+j:=by
 unfold inv2 at h
 split at h
 ·cases h;omega
 ·cases h
theorem qpa {a n1 j:Nat} (h:j<n1):inv2 a n1 (a+j)=some j:=by
 unfold inv2
 rw [za (by omega)]
 congr 1;omega
theorem qik (a j:Nat):names [] a j=a+j:=by simp [names]
def Mp.plus (mp mp':Mp) (a n1:Nat):Mp:=
 ⟨fun y=>match inv2 a n1 y with|some j=>mp'.blk j | .none=>mp.blk y,fun y i=>match inv2 a n1 y with|some j=>mp'.row j i | .none=>mp.row y i⟩
theorem quc {a n1:Nat} (hf:∀ i,n1≤i→mp'.blk i=none∧∀ j,mp'.row i j=none):Mp.le mp' ((mp.plus mp' a n1).pull (names [] a)):=by
 have hj:∀ j,j<n1∨n1≤j:=fun j=>by omega
 refine ⟨fun j g hg=>?_,fun j i v e n hg=>⟨v,e,n,?_,.inr ⟨rfl,.inr ⟨rfl,rfl⟩⟩⟩⟩
 ·rcases hj j with h|h
  ·simp only [Mp.pull,Mp.plus,qik,qpa h];exact hg
  ·rw [(hf j h).1] at hg;cases hg
 ·rcases hj j with h|h
  ·simp only [Mp.pull,Mp.plus,qik,qpa h];exact hg
  ·rw [(hf j h).2] at hg;cases hg
theorem qgz {a n1:Nat} {st1:List (Nat × SO)} (hlt1:∀ j o,look st1 j=some o→j<n1) (hst:∀ y x,look st y=some x→¬ (a≤y∧y<a+n1)) (y:Nat) :
  look (qp (names [] a) st1++st) y=match inv2 a n1 y with|some j=>(look st1 j).map (SO.ren (names [] a))|none=>look st y:=by
 rw [qbp,qtz (is:=[]) (by simp) (by simp)]
 have hinv:inv [] a y=if a≤y then some (y - a) else none:=by simp [inv]
 rw [hinv]
 unfold inv2
 by_cases h1:a≤y
 ·rw [za h1]
  simp only
  by_cases h2:y<a+n1
  ·rw [za ⟨h1,h2⟩]
   simp only
   cases hl:look st1 (y - a) with
   | some o=>rfl
   | none=>
    simp only [Option.map_none]
    cases hs:look st y with
    | none=>rfl
    | some x=>exact absurd ⟨h1,h2⟩ (hst y x hs)
  ·rw [ze (fun h=>h2 h.2)]
   have:look st1 (y - a)=none:=by
    cases hl:look st1 (y - a) with
    | none=>rfl
    | some o=>have:=hlt1 _ _ hl;omega
   rw [this];rfl
 ·rw [ze h1,ze (fun h=>h1 h.1)]
theorem qud {a n1:Nat} {st1:List (Nat × SO)} (hlt1:∀ j o,look st1 j=some o→j<n1) (hst:∀ y x,look st y=some x→¬ (a≤y∧y<a+n1)) {y i:Nat} {R:RowV} (hR:IsMem (qp (names [] a) st1++st) y i R) :
  (∃ j R0,inv2 a n1 y=some j∧IsMem st1 j i R0∧R=R0.ren (names [] a))∨(inv2 a n1 y=none∧IsMem st y i R):=by
 have hb:=qgz (st:=st) hlt1 hst y
 cases hi:inv2 a n1 y with
 | none=>
  rw [hi] at hb
  simp only at hb
  refine .inr ⟨rfl,?_⟩
  cases hR with
  | row hl=>rw [hb] at hl;exact .row hl
  | fam hl h=>rw [hb] at hl;exact .fam hl h
 | some j=>
  rw [hi] at hb
  simp only at hb
  refine .inl ⟨j,?_⟩
  cases hR with
  | row hl=>
   rw [hb] at hl
   obtain ⟨o,ho,he⟩:=Option.map_eq_some_iff.1 hl
   cases o with
   | box=>simp [SO.ren] at he
   | fam=>simp [SO.ren] at he
   | ro=>simp [SO.ren] at he
   | row ids e sz ep n f=>
    simp only [SO.ren,SO.row.injEq] at he
    obtain ⟨rfl,rfl,rfl,rfl,rfl,rfl⟩:=he
    exact ⟨⟨ids,_,_,_,_,f⟩,rfl,.row ho,rfl⟩
  | fam hl h=>
   rw [hb] at hl
   obtain ⟨o,ho,he⟩:=Option.map_eq_some_iff.1 hl
   cases o with
   | box=>simp [SO.ren] at he
   | row=>simp [SO.ren] at he
   | ro=>simp [SO.ren] at he
   | fam e sz cnt ep len f=>
    simp only [SO.ren,SO.fam.injEq] at he
    obtain ⟨rfl,rfl,rfl,rfl,rfl,rfl⟩:=he
    exact ⟨⟨[],_,_,_,_,_⟩,rfl,.fam ho h,rfl⟩
theorem Mem.gain {st1:List (Nat × SO)} {a n1:Nat} {F:Nat→Nat→Prop} (hm:Mem c rd mp st nx w) (hr:Rd.le rd rd') (hm':Mem ⟨w,rd,fun _=>False,stdF⟩ rd' mp' st1 n1 w') (hlt1:stLt n1 st1=true) (hrows:rowsLt n1 st1)
  (hfree:∀ y,a≤y→y<a+n1→c.fre nx y) (hF:∀ y,F nx' y→c.fre nx y∧¬ (a≤y∧y<a+n1)) :
  Mp.le mp (mp.plus mp' a n1)∧Mem (c.free F) rd' (mp.plus mp' a n1) (qp (names [] a) st1++st) nx' w':=by
 have hst:∀ y x,look st y=some x→¬ (a≤y∧y<a+n1):=fun y x hx h=>hm.ids y x hx (hfree y h.1 h.2)
 have hid1:∀ j o,look st1 j=some o→j<n1∧o.lt n1=true:=by
  intro j o hx
  have:=(List.all_eq_true.1 hlt1) _ (qby hx)
  simp only [zh,zx] at this
  exact ⟨by omega,this.2⟩
 have hj1:∀ j o,look st1 j=some o→j<n1:=fun j o h=>(hid1 j o h).1
 have hfr':∀ i,n1≤i→mp'.blk i=none∧∀ j,mp'.row i j=none:=fun i hi=>hm'.fresh i hi
 have hpull:Mp.le mp' ((mp.plus mp' a n1).pull (names [] a)):=quc hfr'
 have hle:Mp.le mp (mp.plus mp' a n1):=by
  have hno:∀ y,(∃ g,mp.blk y=some g)∨(∃ i x,mp.row y i=some x)→inv2 a n1 y=none:=by
   intro y hy
   unfold inv2
   rw [ze]
   rintro ⟨h1,h2⟩
   have:=hm.fresh y (hfree y h1 h2)
   rcases hy with ⟨g,hg⟩|⟨i,x,hx⟩
   ·rw [this.1] at hg;cases hg
   ·rw [this.2] at hx;cases hx
  refine ⟨fun y g hg=>?_,fun y i v e n hg=>⟨v,e,n,?_,.inr ⟨rfl,.inr ⟨rfl,rfl⟩⟩⟩⟩
  ·simp only [Mp.plus,hno y (.inl ⟨g,hg⟩)];exact hg
  ·simp only [Mp.plus,hno y (.inr ⟨i,_,hg⟩)];exact hg
 have hkeep:∀ p g,There st p→blkOf mp p=some g→w'.heap[g]?=w.heap[g]?∧∀ o,rd' g o=none:=by
  intro p g hp hg
  obtain ⟨h1,h2,_⟩:=hm.home hp hg
  refine ⟨hm'.fr.block g h1 (fun h=>h),fun o=>?_⟩
  cases hv:rd' g o with
  | none=>rfl
  | some v=>
   rcases hm'.rdn g o v hv with h|h|h
   ·have h':rd g o=some v:=h
    rw [h2 o] at h';cases h'
   ·have h':w.heap.size≤g:=h
    omega
   ·exact False.elim h
 have hnew:∀ p g,There st1 p→blkOf mp' p=some g→w.heap.size≤g:=by
  intro p g hp hg
  rcases (hm'.home hp hg).2.2 with h|h
  ·exact h
  ·exact False.elim h
 have hin:∀ j,j<n1→∀ i,(mp.plus mp' a n1).blk (a+j)=mp'.blk j∧(mp.plus mp' a n1).row (a+j) i=mp'.row j i:=by
  intro j hj i
  simp only [Mp.plus,qpa hj,and_self]
 -- a place of the new store
 have hcase:∀ p g,There (qp (names [] a) st1++st) p→blkOf (mp.plus mp' a n1) p=some g→(∃ q,There st1 q∧p=q.ren (names [] a)∧blkOf mp' q=some g)∨(There st p∧blkOf mp p=some g):=by
  intro p g hp hg
  cases p with
  | bx b=>
   obtain ⟨ty,cs,hl⟩:=hp
   rw [qgz hj1 hst] at hl
   cases hi:inv2 a n1 b with
   | none=>
    rw [hi] at hl
    simp only [blkOf,Mp.plus,hi] at hg
    exact .inr ⟨⟨ty,cs,hl⟩,hg⟩
   | some j=>
    rw [hi] at hl
    obtain ⟨o,ho,he⟩:=Option.map_eq_some_iff.1 hl
    obtain ⟨cs0,rfl,_⟩:=SO.ren_box he
    simp only [blkOf,Mp.plus,hi] at hg
    exact .inl ⟨.bx j,⟨ty,cs0,ho⟩,by rw [(qub hi).2];simp [Pl.ren,qik],hg⟩
  | rw r i=>
   obtain ⟨R,hR⟩:=hp
   rcases qud hj1 hst hR with ⟨j,R0,hi,h1,_⟩|⟨hi,h1⟩
   ·simp only [blkOf,Mp.plus,hi] at hg
    exact .inl ⟨.rw j i,⟨R0,h1⟩,by rw [(qub hi).2];simp [Pl.ren,qik],hg⟩
   ·simp only [blkOf,Mp.plus,hi] at hg
    exact .inr ⟨⟨R,h1⟩,hg⟩
 refine ⟨hle,hm'.rdw,hm'.rd1,fun g o v hv=>?_,⟨hm'.fr.os.trans hm.fr.os,hm'.fr.tape.trans hm.fr.tape,hm'.fr.output.trans hm.fr.output,zr hm.fr.size hm'.fr.size,fun k hk hf=>?_⟩,fun b ty cs hl=>?_,fun r i R hR=>?_,fun p q g hp' hq' hgp hgq=>?_,fun y hy=>?_,fun y x hx hy=>?_,fun r e sz cnt ep len f hl i hi=>?_,fun r sz ep n f hl=>?_,hm.tab.1,hm.tab.2.trans hm'.tab.2⟩
 ·rcases hm'.rdn g o v hv with h|h|h
  ·exact hm.rdn g o v h
  ·exact .inr (.inl (zr hm.fr.size h))
  ·exact False.elim h
 ·exact (hm'.fr.block k (zbe hk hm.fr.size) (fun h=>h)).trans (hm.fr.block k hk hf)
 ·rw [qgz hj1 hst] at hl
  cases hi:inv2 a n1 b with
  | none=>
   rw [hi] at hl
   exact (hm.bx b ty cs hl).keep hr hle (fun g hg=>hkeep (.bx b) g ⟨ty,cs,hl⟩ hg)
  | some j=>
   rw [hi] at hl
   obtain ⟨o,ho,he⟩:=Option.map_eq_some_iff.1 hl
   obtain ⟨cs0,rfl,rfl⟩:=SO.ren_box he
   obtain ⟨g,vs,h1,h2,h3,h4,h5,h6⟩:=hm'.bx j ty cs0 ho
   refine ⟨g,vs,by simp [Mp.plus,hi,h1],h2,by simpa using h3,?_,h5,.inl (zr hm.fr.size (hnew (.bx j) g ⟨ty,cs0,ho⟩ h1))⟩
   exact (qfs (ι:=names [] a) (n:=n1) (hid1 _ _ ho).2).1 (fun j x v hx hv=>(h4 j x v hx hv).mono (Rd.le.refl _) hpull)
 ·rcases qud hj1 hst hR with ⟨j,R0,hi,h1,rfl⟩|⟨hi,h1⟩
  ·obtain ⟨v,xs,g1,g2,g3,g4,g5⟩:=hm'.mb j i R0 h1
   refine ⟨v,xs,by simp only [Mp.plus,hi];exact g1,g2,fun k hk=>by rw [RowV.ren_len];exact g3 k hk,?_,fun g hg=>⟨(g5 g hg).1,.inl (zr hm.fr.size (hnew (.rw j i) g ⟨R0,h1⟩ (by simp [blkOf,g1,hg])))⟩⟩
   have hids:∀ q∈R0.ids,q<n1:=by
    intro q hq
    cases h1 with
    | row hl=>
     have:=List.all_eq_true.1 (hid1 _ _ hl).2 q hq
     simp only [zx] at this;omega
    | fam hl _=>simp at hq
   refine (qlb (ι:=names [] a) (n:=n1) (fun hne=>qla hrows h1 hne) (fun i j _ _ h=>by simp only [qik] at h;omega) hids).1 ?_
   intro k j x hk hx
   obtain ⟨u,hu,h1',h2'⟩:=g4 k j x hk hx
   exact ⟨u,hu,h1',h2'.mono (Rd.le.refl _) (Mp.sel_mono hpull _)⟩
  ·exact (hm.mb r i R h1).keep hr hle (by simp [Mp.plus,hi]) (fun g hg=>hkeep (.rw r i) g ⟨R,h1⟩ hg)
 ·rcases hcase p g hp' hgp with ⟨p0,h0,rfl,h0'⟩|⟨h0,h0'⟩
  ·rcases hcase q g hq' hgq with ⟨q0,k0,rfl,k0'⟩|⟨k0,k0'⟩
   ·rw [hm'.inj p0 q0 g h0 k0 h0' k0']
   ·have:=(hm.home k0 k0').1
    have:=hnew p0 g h0 h0'
    omega
  ·rcases hcase q g hq' hgq with ⟨q0,k0,rfl,k0'⟩|⟨k0,k0'⟩
   ·have:=(hm.home h0 h0').1
    have:=hnew q0 g k0 k0'
    omega
   ·exact hm.inj p q g h0 k0 h0' k0'
 ·obtain ⟨h1,h2⟩:=hF y hy
  have hi:inv2 a n1 y=none:=by unfold inv2;rw [ze h2]
  simp only [Mp.plus,hi]
  exact hm.fresh y h1
 ·obtain ⟨h1,h2⟩:=hF y hy
  have hi:inv2 a n1 y=none:=by unfold inv2;rw [ze h2]
  rw [qgz hj1 hst,hi] at hx
  exact hm.ids y x hx h1
 ·rw [qgz hj1 hst] at hl
  cases hin:inv2 a n1 r with
  | none=>
   rw [hin] at hl
   simp only [Mp.plus,hin]
   exact hm.out _ _ _ _ _ _ _ hl i hi
  | some j=>
   rw [hin] at hl
   obtain ⟨o,ho,he⟩:=Option.map_eq_some_iff.1 hl
   cases o with
   | box=>simp [SO.ren] at he
   | row=>simp [SO.ren] at he
   | ro=>simp [SO.ren] at he
   | fam e0 sz0 cnt0 ep0 len0 f0=>
    simp only [SO.ren,SO.fam.injEq] at he
    obtain ⟨rfl,rfl,rfl,rfl,rfl,rfl⟩:=he
    simp only [Mp.plus,hin]
    exact hm'.out _ _ _ _ _ _ _ ho i hi
 ·rw [qgz hj1 hst] at hl
  cases hin:inv2 a n1 r with
  | none=>
   rw [hin] at hl
   obtain ⟨v,h1,h2⟩:=hm.ro _ _ _ _ _ hl
   exact ⟨v,by simp only [Mp.plus,hin];exact h1,h2.mono hr (Mp.le.refl _)⟩
  | some j=>
   rw [hin] at hl
   obtain ⟨o,ho,he⟩:=Option.map_eq_some_iff.1 hl
   cases o with
   | box=>simp [SO.ren] at he
   | row=>simp [SO.ren] at he
   | fam=>simp [SO.ren] at he
   | ro sz0 ep0 n0 f0=>
    simp only [SO.ren,SO.ro.injEq] at he
    obtain ⟨rfl,rfl,rfl,rfl⟩:=he
    obtain ⟨v,h1,h2⟩:=hm'.ro _ _ _ _ _ ho
    exact ⟨v,by simp only [Mp.plus,hin];exact h1,h2⟩
end
structure Pst where
 v:AV
 ft:List Nat
 ps:List (Nat × SO)
 a:Nat
 b:Nat
 ob:Prop
def slAt:List (Oper × Pst)→Nat→(Nat→Bool)→List (Nat × AV)→List (Nat × AV)
 | [],_,_,sl=>sl
 | (o,p)::r,i,S,sl=>slAt r (i+1) S (bif S i then jx sl o.dst p.v else sl)
def stAt:List (Oper × Pst)→Nat→(Nat→Bool)→List (Nat × SO)→List (Nat × SO)
 | [],_,_,st=>st
 | (_,p)::r,i,S,st=>stAt r (i+1) S (bif S i then p.ps++st else st)
def getS (sl:List (Nat × AV)) (t:Nat):AV:=(look sl t).getD .any
theorem qpb (sl:List (Nat × AV)) (d:Option Nat) (v:AV) (t:Nat):getS (jx sl d v) t=if d=some t then v else getS sl t:=by
 cases d with
 | none=>simp [jx]
 | some d=>
  simp only [jx,getS,qh,Option.some.injEq]
  split <;> rfl
theorem qld (t:Nat):∀ (L:List (Oper × Pst)) (i:Nat) (S S':Nat→Bool) (s s':List (Nat × AV)),getS s t=getS s' t→
  (∀ (j:Nat) x,L[j]?=some x→x.1.dst=some t→S (i+j)=S' (i+j))→getS (slAt L i S s) t=getS (slAt L i S' s') t:=by
 intro L
 induction L with
 | nil=>intro i S S' s s' h _;exact h
 | cons x r ih=>
  intro i S S' s s' h hw
  obtain ⟨o,p⟩:=x
  simp only [slAt]
  refine ih (i+1) S S' _ _ ?_ (fun j x hx hd=>by have:=hw (j+1) x (by simpa using hx) hd;rwa [show i+(j+1)=i+1+j by omega] at this)
  by_cases hd:o.dst=some t
  ·have h0:=hw 0 (o,p) rfl hd
   simp only [zac] at h0
   rw [h0]
   cases S' i
   ·exact h
   ·simp [qpb,hd]
  ·cases S i <;> cases S' i <;> simp [qpb,hd,h]
theorem qle (y:Nat):∀ (L:List (Oper × Pst)) (i:Nat) (S S':Nat→Bool) (s s':List (Nat × SO)),look s y=look s' y→
  (∀ (j:Nat) (x:Oper × Pst),L[j]?=some x→look x.2.ps y≠none→S (i+j)=S' (i+j))→look (stAt L i S s) y=look (stAt L i S' s') y:=by
 intro L
 induction L with
 | nil=>intro i S S' s s' h _;exact h
 | cons x r ih=>
  intro i S S' s s' h hw
  obtain ⟨o,p⟩:=x
  simp only [stAt]
  refine ih (i+1) S S' _ _ ?_ (fun j x hx hd=>by have:=hw (j+1) x (by simpa using hx) hd;rwa [show i+(j+1)=i+1+j by omega] at this)
  cases hl:look p.ps y with
  | some z=>
   have h0:=hw 0 (o,p) rfl (by rw [hl];simp)
   simp only [zac] at h0
   rw [h0]
   cases S' i
   ·exact h
   ·simp [qbp,hl]
  | none=>cases S i <;> cases S' i <;> simp [qbp,hl,h]
def conf (x y:Pst):Bool:=x.ps.any fun e=>y.ft.any (Nat.beq e.1) || y.ps.any fun e'=>Nat.beq e.1 e'.1
theorem jdv {x y:Pst} {q:Nat} (h:look x.ps q≠none) (hq:q∈y.ft):conf x y=true:=by
 cases hl:look x.ps q with
 | none=>exact absurd hl h
 | some z=>
  refine List.any_eq_true.2 ⟨(q,z),qby hl,?_⟩
  have:y.ft.any (Nat.beq q)=true:=List.any_eq_true.2 ⟨q,hq,by simp⟩
  simp [this]
theorem jdw {x y:Pst} {q:Nat} (h:look x.ps q≠none) (hq:look y.ps q≠none):conf x y=true:=by
 cases hl:look x.ps q with
 | none=>exact absurd hl h
 | some z=>
  cases hl':look y.ps q with
  | none=>exact absurd hl' hq
  | some z'=>
   refine List.any_eq_true.2 ⟨(q,z),qby hl,?_⟩
   have:(y.ps.any fun e'=>Nat.beq q e'.1)=true:=List.any_eq_true.2 ⟨(q,z'),qby hl',by simp⟩
   simp [this]
def qbk (full:Array Oper) (x y:Oper × Pst):Bool:=(conf x.2 y.2 || conf y.2 x.2) || (hits full x.1 y.1 || hits full y.1 x.1)
theorem que (full:Array Oper) (x y:Oper × Pst):qbk full x y=qbk full y x:=by
 simp only [qbk,Bool.or_comm]
def qeu (full:Array Oper) (L:List (Oper × Pst)):Bool:=
 (List.range L.length).all fun j=>
  ((List.range j).all fun i=>(match L[i]?,L[j]? with|some x,some y=>!qbk full x y || (anc full L.length j).contains i|_,_=>true)) &&
  (match full.toList[j]? with|some o=>o.after.all fun e=>!Region.binds .any e || Nat.blt e.on j|none=>true)
theorem qlf {full:Array Oper} {L:List (Oper × Pst)} (h:qeu full L=true) {i j:Nat} {x y:Oper × Pst} (hij:i<j) (hx:L[i]?=some x) (hy:L[j]?=some y) (hc:qbk full x y=true):i∈anc full L.length j:=by
 have hj:j<L.length:=(List.getElem?_eq_some_iff.1 hy).1
 have h1:=List.all_eq_true.1 h j (List.mem_range.2 hj)
 simp only [zh] at h1
 have h2:=List.all_eq_true.1 h1.1 i (List.mem_range.2 hij)
 rw [hx,hy] at h2
 simp only [hc,zbu,zbs] at h2
 simpa using h2
theorem jdx {full:Array Oper} {L:List (Oper × Pst)} (h:qeu full L=true) {j:Nat} (hj:j<L.length) {o:Oper} (ho:full.toList[j]?=some o):∀ e∈o.after,Region.binds .any e=true→e.on<j:=by
 have h1:=List.all_eq_true.1 h j (List.mem_range.2 hj)
 simp only [zh,ho] at h1
 intro e he hb
 have:=(Array.all_eq_true_iff_forall_mem.1 h1.2) e he
 simp only [hb,zbu,zbs,zaz] at this
 exact this
structure SF (c:Ctx) (F:Nat→Prop) (rd:Rd) (mp:Mp) (sl:List (Nat × AV)) (st:List (Nat × SO)) (a:Act) (w:World):Prop where
 slots:∀ t,Rel rd mp (getS sl t) (a.tmps.getD t undef)
 defers:a.defers=[]
 mem:Mem (c.free fun _=>F) rd mp st 0 w
def less (F:Nat→Prop) (a b:Nat):Nat→Prop:=fun y=>F y∧¬ (a≤y∧y<b)
def qha (E:Env) (full:Array Oper) (F:Nat→Prop) (sl:List (Nat × AV)) (st:List (Nat × SO)) (o:Oper) (p:Pst):Prop:=
 ∀ rd mp a w,SF E.c F rd mp sl st a w→a.tmps.size=E.fn.ntmps→∀ (K:Act→World→Prop) (Q:Exit→Act→World→Prop),
  (∀ x w' rd' mp',Rd.le rd rd'→Mp.le mp mp'→Mem (E.c.free fun _=>less F p.a p.b) rd' mp' (p.ps++st) 0 w'→Rel rd' mp' p.v x→(∀ d,o.dst=some d→d<a.tmps.size)→K (a.put o.dst x) w')→
  if Region.wanted o (yielded full a.tmps) then o.wp E.P a w K Q∨(o.asks E.P a w∧LetsOut Q) else K (a.put o.dst undef) w
def qil (L:List (Oper × Pst)) (nE:Nat) (S:Nat→Bool) (y:Nat):Prop:=nE≤y∨∃ (i:Nat) (x:Oper × Pst),L[i]?=some x∧S i=false∧x.2.a≤y∧y<x.2.b
theorem jdy {E:Env} {B:Nat→ASt→Prop} {ops:Array Oper} {k:List Itm} {s sE:ASt} {L:List (Oper × Pst)} (hLo:L.map (·.1)=ops.toList)
  (hst:∀ (i:Nat) x,L[i]?=some x→∀ S,Adm ops L.length S i→qha E ops (qil L sE.nx S) (slAt L 0 S s.sl) (stAt L 0 S s.st) x.1 x.2)
  (hrg:∀ (i j:Nat) x y,i<j→L[i]?=some x→L[j]?=some y→x.2.b≤y.2.a) (hrE:∀ (i:Nat) x,L[i]?=some x→x.2.b≤sE.nx)
  (hslE:∀ t,getS (slAt L 0 (fun _=>true) s.sl) t=sE.get t) (hstE:∀ y,look (stAt L 0 (fun _=>true) s.st) y=look sE.st y)
  (hord:qeu ops L=true) (hstd:E.c.fre=stdF) (hfin:Ok E B k sE) :
  ∀ (fuel:Nat) (listed:Array Bool) (a:Act) (w:World),listed.size=ops.size→listed.count false≤fuel→
   (∀ j o,ops.toList[j]?=some o→listed.getD j false=true→∀ e∈o.after,Region.binds .any e=true→listed.getD e.on false=true)→
   a.tmps.size=E.fn.ntmps→(∃ rd mp,SF E.c (qil L sE.nx fun i=>listed.getD i false) rd mp (slAt L 0 (fun i=>listed.getD i false) s.sl) (stAt L 0 (fun i=>listed.getD i false) s.st) a w∧Base E rd mp)→wpAny E.P .any ops (QK E B k) fuel listed a w:=by
 have hlen:L.length=ops.size:=by have:=congrArg List.length hLo;simpa using this
 have done:∀ (listed:Array Bool) (a:Act) (w:World),listed.size=ops.size→(∀ i,i<ops.size→listed.getD i false=true)→a.tmps.size=E.fn.ntmps→
   (∃ rd mp,SF E.c (qil L sE.nx fun i=>listed.getD i false) rd mp (slAt L 0 (fun i=>listed.getD i false) s.sl) (stAt L 0 (fun i=>listed.getD i false) s.st) a w∧Base E rd mp)→QK E B k .normal a w:=by
  rintro listed a w _ hall hsz ⟨rd,mp,hs,hrd⟩
  have hS:∀ (j:Nat) (x:Oper × Pst),L[j]?=some x→(fun i=>listed.getD i false) (0+j)=(fun _=>true) (0+j):=by
   intro j x hx
   rw [zw]
   exact hall j (by rw [← hlen];exact (List.getElem?_eq_some_iff.1 hx).1)
  refine hfin rd mp a w ⟨fun t=>?_,hs.defers,?_⟩ hrd hsz
  ·have:=hs.slots t
   rw [qld t L 0 _ (fun _=>true) s.sl s.sl rfl (fun j x hx _=>hS j x hx),hslE t] at this
   exact this
  ·have h1:=hs.mem.refre (F:=E.c.fre) (nx':=sE.nx) (fun i hi=>by rw [hstd] at hi;exact .inl hi)
   rw [Ctx.free_free,Ctx.free_self] at h1
   refine h1.forget (fun y x hx=>?_)
   rw [qle y L 0 _ (fun _=>true) s.st s.st rfl (fun j x hx _=>hS j x hx),hstE y]
   exact hx
 have full_of_ready:∀ (listed:Array Bool),listed.size=ops.size→Region.ready .any ops listed=[]→∀ i,i<ops.size→listed.getD i false=true:=by
  intro listed hls hr i
  induction i using Nat.strongRecOn with
  | _ i ih=>
   intro hi
   cases hl:listed.getD i false with
   | true=>rfl
   | false=>
    exfalso
    have hmem:i∈Region.ready .any ops listed:=by
     rw [mem_ready]
     refine ⟨by simp [hls,hi] at hl ⊢;exact hl,ops[i],by simp [hi],fun e he hb=>?_⟩
     have:=jdx hord (j:=i) (by omega) (o:=ops[i]) (by simp [hi]) e he hb
     exact ih e.on this (by omega)
    rw [hr] at hmem
    simp at hmem
 intro fuel
 induction fuel with
 | zero=>
  intro listed a w hls hcnt hcl hsz hs
  have hall:∀ i,i<ops.size→listed.getD i false=true:=by
   intro i hi
   cases hl:listed.getD i false with
   | true=>rfl
   | false=>
    exfalso
    have hi':i<listed.size:=by omega
    have:false∈listed:=by
     have h2:listed[i]=false:=by simpa [hi'] using hl
     rw [← h2];exact Array.getElem_mem hi'
    have:=Array.count_pos_iff.2 this
    omega
  refine ⟨?_,done listed a w hls hall hsz hs⟩
  cases hr:Region.ready .any ops listed with
  | nil=>rfl
  | cons i r=>
   exfalso
   have hmem:i∈Region.ready .any ops listed:=by rw [hr];simp
   rw [mem_ready] at hmem
   obtain ⟨h0,o,ho,_⟩:=hmem
   have hi:i<ops.size:=(Array.getElem?_eq_some_iff.1 ho).1
   have:=hall i hi
   have hi':i<listed.size:=by omega
   simp [hi'] at h0 this
   rw [h0] at this
   cases this
 | succ fuel ih=>
  intro listed a w hls hcnt hcl hsz hs
  refine ⟨fun hr=>done listed a w hls (full_of_ready listed hls hr) hsz hs,fun i hi=>?_⟩
  rw [mem_ready] at hi
  obtain ⟨h0,o,ho,hedges⟩:=hi
  have hin:i<ops.size:=(Array.getElem?_eq_some_iff.1 ho).1
  have hil:i<listed.size:=by omega
  have hli:listed.getD i false=false:=by simp [hil] at h0 ⊢;exact h0
  have hol:ops.toList[i]?=some o:=by simpa using ho
  obtain ⟨rd,mp,hs,hrd⟩:=hs
  obtain ⟨p,hp⟩:∃ p,L[i]?=some (o,p):=by
   have hi':i<L.length:=by omega
   refine ⟨L[i].2,?_⟩
   have:(L.map (·.1))[i]?=some o:=by rw [hLo];exact hol
   rw [zm,zb hi'] at this
   simp at this
   rw [zb hi',← this]
  -- what is ahead is done, what is behind is not
  have hanc:∀ j∈anc ops L.length i,listed.getD j false=true:=qgu ops _ hcl _ i (fun o' ho'=>by rw [hol] at ho';cases ho';exact hedges)
  have hbeh:∀ j,i∈anc ops L.length j→j<ops.size→listed.getD j false=false:=by
   intro j hj hjs
   cases hl:listed.getD j false with
   | false=>rfl
   | true=>
    exfalso
    have:=qgu ops _ hcl L.length j (fun o' ho'=>hcl j o' ho' hl) i hj
    rw [hli] at this
    cases this
  have agree:∀ (j:Nat) x,L[j]?=some x→qbk ops x (o,p)=true→listed.getD j false=decide (j<i):=by
   intro j x hx hc1
   have hj:j<ops.size:=by rw [← hlen];exact (List.getElem?_eq_some_iff.1 hx).1
   have hc2:qbk ops (o,p) x=true:=by rw [← que];exact hc1
   rcases Nat.lt_trichotomy j i with h|h|h
   ·simp only [h,decide_true];exact hanc j (qlf hord h hx hp hc1)
   ·subst h;simp only [Nat.lt_irrefl,decide_false];exact hli
   ·have:¬ j<i:=by omega
    simp only [this,decide_false]
    exact hbeh j (qlf hord h hp hx hc2) hj
  have hcld:∀ (j:Nat) x t,L[j]?=some x→x.1.dst=some t→o.dst=some t→qbk ops x (o,p)=true:=by
   intro j x t _ hd ht
   have:hits ops x.1 o=true:=by simp [hits,hd,ht]
   simp [qbk,this]
  have hclm:∀ (j:Nat) (x:Oper × Pst) y,L[j]?=some x→look x.2.ps y≠none→look p.ps y≠none→qbk ops x (o,p)=true:=by
   intro j x y _ h1 h2
   simp [qbk,jdw h1 h2]
  have hstep':=hst i (o,p) hp (fun q=>listed.getD q false) ⟨hanc,hli,hbeh,fun j hj q hq=>qgu ops _ hcl L.length j (fun o' ho'=>hcl j o' ho' hj) q hq⟩
  have hS':∀ j,j≠i→(listed.setIfInBounds i true).getD j false=listed.getD j false:=fun j hj=>getD_set_ne false (Ne.symm hj)
  have hS'i:(listed.setIfInBounds i true).getD i false=true:=by simp [hil]
  have agree':∀ (j:Nat) x,L[j]?=some x→qbk ops x (o,p)=true→(listed.setIfInBounds i true).getD j false=decide (j<i+1):=by
   intro j x hx hc
   by_cases hji:j=i
   ·subst hji;rw [hS'i];simp
   ·rw [hS' j hji,agree j x hx hc]
    have:(j<i)↔(j<i+1):=by omega
    simp [this]
  -- the set up to i, and i itself
  have qlg:∀ (M:List (Oper × Pst)) (m b:Nat),b≤m→∀ s,slAt M m (fun j=>decide (j<b)) s=s:=by
   intro M
   induction M with
   | nil=>intro m b _ s;rfl
   | cons y M ihM=>
    intro m b hb s
    obtain ⟨o'',p''⟩:=y
    simp only [slAt]
    have:decide (m<b)=false:=by simp;omega
    rw [this]
    exact ihM (m+1) b (by omega) s
  have qlh:∀ (M:List (Oper × Pst)) (m b:Nat),b≤m→∀ s,stAt M m (fun j=>decide (j<b)) s=s:=by
   intro M
   induction M with
   | nil=>intro m b _ s;rfl
   | cons y M ihM=>
    intro m b hb s
    obtain ⟨o'',p''⟩:=y
    simp only [stAt]
    have:decide (m<b)=false:=by simp;omega
    rw [this]
    exact ihM (m+1) b (by omega) s
  have hsucc_sl:∀ (L':List (Oper × Pst)) (k' i':Nat) (s':List (Nat × AV)),L'[i']?=some (o,p)→slAt L' k' (fun j=>decide (j<k'+i'+1)) s'=jx (slAt L' k' (fun j=>decide (j<k'+i')) s') o.dst p.v:=by
   intro L'
   induction L' with
   | nil=>intro k' i' s' h;simp at h
   | cons y L' ihL=>
    intro k' i' s' h
    obtain ⟨o',p'⟩:=y
    cases i' with
    | zero=>
     simp at h
     obtain ⟨rfl,rfl⟩:=h
     simp only [slAt]
     have e1:decide (k'<k'+0+1)=true:=by simp
     have e2:decide (k'<k'+0)=false:=by simp
     rw [e1,e2]
     simp only [cond_true,cond_false]
     rw [qlg L' (k'+1) (k'+0+1) (by omega),qlg L' (k'+1) (k'+0) (by omega)]
    | succ i'=>
     simp at h
     simp only [slAt]
     have e1:decide (k'<k'+(i'+1)+1)=true:=by simp;omega
     have e2:decide (k'<k'+(i'+1))=true:=by simp
     rw [e1,e2]
     simp only [cond_true]
     have:=ihL (k'+1) i' (jx s' o'.dst p'.v) h
     rw [show k'+1+i'+1=k'+(i'+1)+1 by omega,show k'+1+i'=k'+(i'+1) by omega] at this
     exact this
  have hsucc_st:∀ (L':List (Oper × Pst)) (k' i':Nat) (s':List (Nat × SO)),L'[i']?=some (o,p)→stAt L' k' (fun j=>decide (j<k'+i'+1)) s'=p.ps++stAt L' k' (fun j=>decide (j<k'+i')) s':=by
   intro L'
   induction L' with
   | nil=>intro k' i' s' h;simp at h
   | cons y L' ihL=>
    intro k' i' s' h
    obtain ⟨o',p'⟩:=y
    cases i' with
    | zero=>
     simp at h
     obtain ⟨rfl,rfl⟩:=h
     simp only [stAt]
     have e1:decide (k'<k'+0+1)=true:=by simp
     have e2:decide (k'<k'+0)=false:=by simp
     rw [e1,e2]
     simp only [cond_true,cond_false]
     rw [qlh L' (k'+1) (k'+0+1) (by omega),qlh L' (k'+1) (k'+0) (by omega)]
    | succ i'=>
     simp at h
     simp only [stAt]
     have e1:decide (k'<k'+(i'+1)+1)=true:=by simp;omega
     have e2:decide (k'<k'+(i'+1))=true:=by simp
     rw [e1,e2]
     simp only [cond_true]
     have:=ihL (k'+1) i' (p'.ps++s') h
     rw [show k'+1+i'+1=k'+(i'+1)+1 by omega,show k'+1+i'=k'+(i'+1) by omega] at this
     exact this
  have hsi:=hsucc_sl L 0 i s.sl hp
  have hsi2:=hsucc_st L 0 i s.st hp
  simp only [zw] at hsi hsi2
  unfold wpOp
  rw [ho]
  refine hstep' rd mp a w hs hsz _ _ (fun x w' rd' mp' hr hm hmem hrel hdst=>?_)
  refine ih (listed.setIfInBounds i true) _ w' (by simpa using hls) ?_ ?_ (by rw [qch];exact hsz) ⟨rd',mp',⟨fun t=>?_,?_,?_⟩,hrd.step hr hm⟩
  ·have hl2:listed[i]=false:=by simpa [hil] using hli
   have hc:=Array.count_set (xs:=listed) (i:=i) (a:=true) (b:=false) hil
   rw [Array.setIfInBounds,dif_pos hil,hc,hl2]
   have:0<listed.count false:=Array.count_pos_iff.2 (by rw [← hl2];exact Array.getElem_mem hil)
   simp
   omega
  ·intro j o' ho' hj e he hb
   by_cases hji:j=i
   ·subst hji
    rw [hol] at ho';cases ho'
    exact getD_set_true (hedges e he hb)
   ·rw [hS' j hji] at hj
    exact getD_set_true (hcl j o' ho' hj e he hb)
  ·by_cases hd:o.dst=some t
   ·have hlt:=hdst t hd
    have hget:getS (slAt L 0 (fun q=>(listed.setIfInBounds i true).getD q false) s.sl) t=p.v:=by
     rw [qld t L 0 _ (fun j=>decide (j<i+1)) s.sl s.sl rfl (fun j x hx hdx=>by rw [zw];exact agree' j x hx (hcld j x t hx hdx hd)),hsi,qpb,za hd]
    rw [hget]
    have:(a.put o.dst x).tmps.getD t undef=x:=by rw [hd];simp [Act.put,hlt]
    rw [this]
    exact hrel
   ·have hget:getS (slAt L 0 (fun q=>(listed.setIfInBounds i true).getD q false) s.sl) t=getS (slAt L 0 (fun q=>listed.getD q false) s.sl) t:=by
     refine qld t L 0 _ _ s.sl s.sl rfl (fun j x hx hdx=>?_)
     rw [zw]
     refine hS' j (fun e=>?_)
     subst e
     rw [hp] at hx;cases hx
     exact hd hdx
    rw [hget]
    have:(a.put o.dst x).tmps.getD t undef=a.tmps.getD t undef:=by
     cases hdd:o.dst with
     | none=>rfl
     | some d=>
      simp only [Act.put,zai]
      rw [zaw (fun e=>hd (by rw [hdd,e]))]
    rw [this]
    exact (hs.slots t).mono hr hm
  ·cases o.dst <;> exact hs.defers
  ·have h1:=hmem.refre (F:=fun _=>qil L sE.nx fun q=>(listed.setIfInBounds i true).getD q false) (nx':=0) (fun y hy=>by
    rcases hy with hy|⟨j,z,hz,hSz,hz1,hz2⟩
    ·exact ⟨.inl hy,fun h=>Nat.not_lt.2 hy (zbe h.2 (hrE i _ hp))⟩
    ·simp only at hSz
     have hji:j≠i:=by rintro rfl;rw [hS'i] at hSz;cases hSz
     rw [hS' j hji] at hSz
     refine ⟨.inr ⟨j,z,hz,hSz,hz1,hz2⟩,fun h=>?_⟩
     rcases Nat.lt_or_gt_of_ne hji with h'|h'
     ·exact Nat.not_lt.2 h.1 (zbe hz2 (hrg j i _ _ h' hz hp))
     ·exact Nat.not_lt.2 hz1 (zbe h.2 (hrg i j _ _ h' hp hz)))
   rw [Ctx.free_free] at h1
   refine h1.forget (fun y z hz=>?_)
   rw [← hz]
   cases hl:look p.ps y with
   | none=>
    rw [qbp,hl]
    refine qle y L 0 _ _ s.st s.st rfl (fun j x hx hw=>?_)
    rw [zw]
    refine (hS' j (fun e=>?_)).symm
    subst e
    rw [hp] at hx;cases hx
    exact hw hl
   | some u=>
    rw [qbp,hl]
    simp only
    rw [qle y L 0 (fun q=>(listed.setIfInBounds i true).getD q false) (fun j=>decide (j<i+1)) s.st s.st rfl (fun j x hx hw=>by rw [zw];exact agree' j x hx (hclm j x y hx hw (by rw [hl];simp))),hsi2,qbp,hl]
end Go.Sx
end
section
namespace Go.Sx
open Go Go.RowKit
variable {c:Ctx} {rd rd':Rd} {mp mp':Mp} {st:List (Nat × SO)} {nx:Nat} {w w':World}
def inv0 (is:List Nat) (y:Nat):Option Nat:=if y∈is then some (is.idxOf y) else none
def nm0 (is:List Nat) (j:Nat):Nat:=is.getD j 0
def Mp.back0 (mp mp':Mp) (is:List Nat):Mp:=
 ⟨fun y=>match inv0 is y with|some j=>mp'.blk j | .none=>mp.blk y,fun y i=>match inv0 is y with|some j=>mp'.row j i | .none=>mp.row y i⟩
theorem qfu {is:List Nat} (hd:is.Nodup) {j:Nat} (hj:j<is.length):inv0 is (nm0 is j)=some j:=by
 unfold inv0 nm0
 have hg:is.getD j 0=is[j]:=by simp [List.getD,hj]
 rw [hg,za (zau hj),hd.idxOf_getElem j hj]
theorem qdz {is:List Nat} {y j:Nat} (h:inv0 is y=some j):nm0 is j=y∧j<is.length:=by
 unfold inv0 at h
 split at h
 ·rename_i hm
  cases h
  have hl:=zbg hm
  exact ⟨by unfold nm0;simp [List.getD,hl],hl⟩
 ·cases h
theorem quf {is:List Nat} (hd:is.Nodup) {i j:Nat} (hi:i<is.length) (hj:j<is.length) (h:nm0 is i=nm0 is j):i=j:=by
 have h1:=qfu hd hi
 rw [h,qfu hd hj] at h1
 cases h1;rfl
theorem qug {is:List Nat} (hd:is.Nodup):∀ (st1:List (Nat × SO)),(∀ p∈st1,p.1<is.length)→∀ (y:Nat),
  look (qp (nm0 is) st1) y=match inv0 is y with|some j=>(look st1 j).map (SO.ren (nm0 is))|none=>none
 | [],_,y=>by cases inv0 is y <;> rfl
 | (j,o)::r,hl,y=>by
  have hj:j<is.length:=hl (j,o) (xm ..)
  have ih:=qug hd r (fun p hp=>hl p (xg _ hp)) y
  simp only [qp,zag] at ih ⊢
  rw [qh,ih]
  by_cases hy:nm0 is j=y
  ·rw [za hy,← hy,qfu hd hj]
   simp only
   rw [qh,za rfl];rfl
  ·rw [ze hy]
   cases hi:inv0 is y with
   | none=>rfl
   | some j'=>
    simp only
    rw [qh,ze (fun e=>hy (by rw [e];exact (qdz hi).1))]
theorem qdl {is:List Nat} (hd:is.Nodup) {st1:List (Nat × SO)} (hl:∀ p∈st1,p.1<is.length) (y:Nat) :
  look (qp (nm0 is) st1++qx is st) y=match inv0 is y with|some j=>(look st1 j).map (SO.ren (nm0 is))|none=>look st y:=by
 rw [qbp,qug hd st1 hl,qft]
 cases hi:inv0 is y with
 | none=>
  simp only
  rw [ze]
  intro hm
  simp [inv0,hm] at hi
 | some j=>
  simp only
  cases hk:look st1 j with
  | some o=>rfl
  | none=>
   simp only [Option.map_none]
   rw [za]
   unfold inv0 at hi
   split at hi
   ·assumption
   ·cases hi
theorem quh {is:List Nat} (hd:is.Nodup) {st1:List (Nat × SO)} (hl:∀ p∈st1,p.1<is.length) {y i:Nat} {R:RowV} (hR:IsMem (qp (nm0 is) st1++qx is st) y i R) :
  (∃ j R0,(nm0 is j=y∧j<is.length)∧IsMem st1 j i R0∧R=R0.ren (nm0 is))∨(inv0 is y=none∧IsMem st y i R):=by
 have hb:=qdl (st:=st) hd hl y
 cases hi:inv0 is y with
 | none=>
  rw [hi] at hb
  simp only at hb
  refine .inr ⟨rfl,?_⟩
  cases hR with
  | row hl=>rw [hb] at hl;exact .row hl
  | fam hl h=>rw [hb] at hl;exact .fam hl h
 | some j=>
  rw [hi] at hb
  simp only at hb
  refine .inl ⟨j,?_⟩
  cases hR with
  | row hl=>
   rw [hb] at hl
   obtain ⟨o,ho,he⟩:=Option.map_eq_some_iff.1 hl
   cases o with
   | box=>simp [SO.ren] at he
   | fam=>simp [SO.ren] at he
   | ro=>simp [SO.ren] at he
   | row ids e sz ep n f=>
    simp only [SO.ren,SO.row.injEq] at he
    obtain ⟨rfl,rfl,rfl,rfl,rfl,rfl⟩:=he
    exact ⟨⟨ids,_,_,_,_,f⟩,qdz hi,.row ho,rfl⟩
  | fam hl h=>
   rw [hb] at hl
   obtain ⟨o,ho,he⟩:=Option.map_eq_some_iff.1 hl
   cases o with
   | box=>simp [SO.ren] at he
   | row=>simp [SO.ren] at he
   | ro=>simp [SO.ren] at he
   | fam e sz cnt ep len f=>
    simp only [SO.ren,SO.fam.injEq] at he
    obtain ⟨rfl,rfl,rfl,rfl,rfl,rfl⟩:=he
    exact ⟨⟨[],_,_,_,_,_⟩,qdz hi,.fam ho h,rfl⟩
theorem Mem.leave0 {is:List Nat} {st0 st1:List (Nat × SO)} (hm:Mem c rd mp st nx w) (hd:is.Nodup) (hnm:Named st0 st (nm0 is)) (h0:∀ p∈st0,p.1<is.length) (hr:Rd.le rd rd')
  (hm':Mem ⟨w,rd,fun g=>∃ p,There st0 p∧blkOf mp (p.ren (nm0 is))=some g,stdF⟩ rd' mp' st1 is.length w') (hlt1:stLt is.length st1=true) (hrows:rowsLt is.length st1) (hp:Mp.le ((mp.pull (nm0 is)).restrict is.length) mp')
  (hin:∀ i∈is,look st i≠none) :
  Mp.le mp (mp.back0 mp' is)∧Mp.le mp' ((mp.back0 mp' is).pull (nm0 is))∧Mem c rd' (mp.back0 mp' is) (qp (nm0 is) st1++qx is st) nx w':=by
 have hl1:∀ p∈st1,p.1<is.length:=by
  intro p hp
  have:=(List.all_eq_true.1 hlt1) p hp
  simp only [zh,zx] at this
  omega
 have hfr':∀ j,is.length≤j→mp'.blk j=none∧∀ i,mp'.row j i=none:=fun j hj=>hm'.fresh j hj
 have hle:Mp.le mp (mp.back0 mp' is):=by
  refine ⟨fun y g hg=>?_,fun y i v e n hg=>?_⟩
  ·simp only [Mp.back0]
   cases hi:inv0 is y with
   | none=>exact hg
   | some j=>
    simp only
    obtain ⟨hy,hj⟩:=qdz hi
    exact hp.blk j g (by simp [Mp.restrict,Mp.pull,hj,hy,hg])
  ·simp only [Mp.back0]
   cases hi:inv0 is y with
   | none=>exact ⟨v,e,n,hg,.inr ⟨rfl,.inr ⟨rfl,rfl⟩⟩⟩
   | some j=>
    simp only
    obtain ⟨hy,hj⟩:=qdz hi
    exact hp.row j i v e n (by simp [Mp.restrict,Mp.pull,hj,hy,hg])
 have hblkN:∀ j,j<is.length→(mp.back0 mp' is).blk (nm0 is j)=mp'.blk j∧∀ i,(mp.back0 mp' is).row (nm0 is j) i=mp'.row j i:=by
  intro j hj
  simp only [Mp.back0,qfu hd hj,implies_true,and_self]
 have hpull:Mp.le mp' ((mp.back0 mp' is).pull (nm0 is)):=by
  refine ⟨fun j g hg=>?_,fun j i v e n hg=>⟨v,e,n,?_,.inr ⟨rfl,.inr ⟨rfl,rfl⟩⟩⟩⟩
  ·by_cases hj:j<is.length
   ·simp only [Mp.pull,(hblkN j hj).1];exact hg
   ·rw [(hfr' j (by omega)).1] at hg;cases hg
  ·by_cases hj:j<is.length
   ·simp only [Mp.pull,(hblkN j hj).2];exact hg
   ·rw [(hfr' j (by omega)).2] at hg;cases hg
 have hid1:∀ j o,look st1 j=some o→j<is.length∧o.lt is.length=true:=by
  intro j o hx
  have:=(List.all_eq_true.1 hlt1) _ (qby hx)
  simp only [zh,zx] at this
  exact ⟨by omega,this.2⟩
 have hfx:∀ g,(∃ p,There st0 p∧blkOf mp (p.ren (nm0 is))=some g)→c.w0.heap.size≤g∨c.fx g:=by
  rintro g ⟨p,hp',hg⟩
  exact (hm.home (hnm.there hp') hg).2.2
 -- a place of the frame is none of the callee's
 have hframe:∀ p g,There st p→(match p with | .bx b=>inv0 is b | .rw r _=>inv0 is r)=none→blkOf mp p=some g→¬ ∃ q,There st0 q∧blkOf mp (q.ren (nm0 is))=some g:=by
  rintro p g hp' hi hg ⟨q,hq,hgq⟩
  have he:=hm.inj p _ g hp' (hnm.there hq) hg hgq
  cases q with
  | bx b=>
   obtain ⟨ty,cs,hl⟩:=hq
   have hb:b<is.length:=h0 _ (qby hl)
   simp only [Pl.ren] at he
   subst he
   simp only [qfu hd hb] at hi
   cases hi
  | rw r i=>
   obtain ⟨R,hR⟩:=hq
   have hb:r<is.length:=by cases hR with|row hl=>exact h0 _ (qby hl)|fam hl _=>exact h0 _ (qby hl)
   simp only [Pl.ren] at he
   subst he
   simp only [qfu hd hb] at hi
   cases hi
 have hkeep:∀ p g,There st p→(match p with | .bx b=>inv0 is b | .rw r _=>inv0 is r)=none→blkOf mp p=some g→w'.heap[g]?=w.heap[g]?∧∀ o,rd' g o=none:=by
  intro p g hp' hi hg
  obtain ⟨h1,h2,_⟩:=hm.home hp' hg
  refine ⟨hm'.fr.block g h1 (hframe p g hp' hi hg),fun o=>?_⟩
  cases hv:rd' g o with
  | none=>rfl
  | some v=>
   rcases hm'.rdn g o v hv with h|h|h
   ·have h':rd g o=some v:=h
    rw [h2 o] at h';cases h'
   ·have h':w.heap.size≤g:=h
    omega
   ·exact absurd h (hframe p g hp' hi hg)
 have hnew:∀ p g,There st1 p→blkOf mp' p=some g→(c.w0.heap.size≤g∨c.fx g)∧(w.heap.size≤g∨∃ q,There st0 q∧blkOf mp (q.ren (nm0 is))=some g):=by
  intro p g hp' hg
  rcases (hm'.home hp' hg).2.2 with h|h
  ·have h':w.heap.size≤g:=h
   exact ⟨.inl (zr hm.fr.size h'),.inl h'⟩
  ·exact ⟨hfx g h,.inr h⟩
 have hblk1:∀ p,There st1 p→blkOf (mp.back0 mp' is) (p.ren (nm0 is))=blkOf mp' p:=by
  intro p hp'
  cases p with
  | bx b=>
   obtain ⟨ty,cs,hl⟩:=hp'
   exact (hblkN b (hid1 _ _ hl).1).1
  | rw r i=>
   obtain ⟨R,hR⟩:=hp'
   have hb:r<is.length:=by cases hR with|row hl=>exact (hid1 _ _ hl).1|fam hl _=>exact (hid1 _ _ hl).1
   simp only [blkOf,Pl.ren,(hblkN r hb).2]
 have hblk0:∀ p:Pl,(match p with | .bx b=>inv0 is b | .rw r _=>inv0 is r)=none→blkOf (mp.back0 mp' is) p=blkOf mp p:=by
  intro p hi
  cases p with
  | bx b=>simp only at hi;simp [blkOf,Mp.back0,hi]
  | rw r i=>simp only at hi;simp [blkOf,Mp.back0,hi]
 -- a place of the new store
 have hcase:∀ p,There (qp (nm0 is) st1++qx is st) p→(∃ q,There st1 q∧p=q.ren (nm0 is))∨(There st p∧(match p with | .bx b=>inv0 is b | .rw r _=>inv0 is r)=none):=by
  intro p hp'
  cases p with
  | bx b=>
   obtain ⟨ty,cs,hl⟩:=hp'
   rw [qdl hd hl1] at hl
   cases hi:inv0 is b with
   | none=>rw [hi] at hl;exact .inr ⟨⟨ty,cs,hl⟩,hi⟩
   | some j=>
    rw [hi] at hl
    obtain ⟨o,ho,he⟩:=Option.map_eq_some_iff.1 hl
    obtain ⟨cs0,rfl,_⟩:=SO.ren_box he
    exact .inl ⟨.bx j,⟨ty,cs0,ho⟩,by simp [Pl.ren,(qdz hi).1]⟩
  | rw r i=>
   obtain ⟨R,hR⟩:=hp'
   rcases quh hd hl1 hR with ⟨j,R0,⟨rfl,_⟩,h1,_⟩|⟨hi,h1⟩
   ·exact .inl ⟨.rw j i,⟨R0,h1⟩,rfl⟩
   ·exact .inr ⟨⟨R,h1⟩,hi⟩
 refine ⟨hle,hpull,hm'.rdw,hm'.rd1,fun g o v hv=>?_,⟨hm'.fr.os.trans hm.fr.os,hm'.fr.tape.trans hm.fr.tape,hm'.fr.output.trans hm.fr.output,zr hm.fr.size hm'.fr.size,fun k hk hf=>?_⟩,fun b ty cs hl=>?_,fun r i R hR=>?_,fun p q g hp' hq' hgp hgq=>?_,fun y hy=>?_,fun y x hx=>?_,fun r e sz cnt ep len f hl i hi=>?_,fun r sz ep n f hl=>?_,hm.tab.1,hm.tab.2.trans hm'.tab.2⟩
 ·rcases hm'.rdn g o v hv with h|h|h
  ·exact hm.rdn g o v h
  ·exact .inr (.inl (zr hm.fr.size h))
  ·exact .inr (hfx g h)
 ·rw [← hm.fr.block k hk hf]
  refine hm'.fr.block k (zbe hk hm.fr.size) (fun h=>?_)
  rcases hfx k h with h|h
  ·omega
  ·exact hf h
 ·rw [qdl hd hl1] at hl
  cases hi:inv0 is b with
  | none=>
   rw [hi] at hl
   exact (hm.bx b ty cs hl).keep hr hle (fun g hg=>hkeep (.bx b) g ⟨ty,cs,hl⟩ hi hg)
  | some j=>
   rw [hi] at hl
   obtain ⟨o,ho,he⟩:=Option.map_eq_some_iff.1 hl
   obtain ⟨cs0,rfl,rfl⟩:=SO.ren_box he
   obtain ⟨g,vs,h1,h2,h3,h4,h5,h6⟩:=hm'.bx j ty cs0 ho
   refine ⟨g,vs,by simp [Mp.back0,hi,h1],h2,by simpa using h3,?_,h5,(hnew (.bx j) g ⟨ty,cs0,ho⟩ h1).1⟩
   exact (qfs (ι:=nm0 is) (n:=is.length) (hid1 _ _ ho).2).1 (fun j x v hx hv=>(h4 j x v hx hv).mono (Rd.le.refl _) hpull)
 ·rcases quh hd hl1 hR with ⟨j,R0,⟨rfl,hjl⟩,h1,rfl⟩|⟨hi,h1⟩
  ·obtain ⟨v,xs,g1,g2,g3,g4,g5⟩:=hm'.mb j i R0 h1
   refine ⟨v,xs,by rw [(hblkN j hjl).2];exact g1,g2,fun k hk=>by rw [RowV.ren_len];exact g3 k hk,?_,fun g hg=>⟨(g5 g hg).1,(hnew (.rw j i) g ⟨R0,h1⟩ (by simp [blkOf,g1,hg])).1⟩⟩
   have hids:∀ q∈R0.ids,q<is.length:=by
    intro q hq
    cases h1 with
    | row hl=>
     have:=List.all_eq_true.1 (hid1 _ _ hl).2 q hq
     simp only [zx] at this;omega
    | fam hl _=>simp at hq
   refine (qlb (ι:=nm0 is) (n:=is.length) (fun hne=>qla hrows h1 hne) (fun i j hi hj h=>quf hd hi hj h) hids).1 ?_
   have hsel:((mp.back0 mp' is).pull (nm0 is)).sel R0.ids=mp'.sel R0.ids:=by
    unfold Mp.sel
    congr 1
    funext r i
    by_cases hr':r∈R0.ids
    ·rw [za hr',za hr']
     exact (hblkN r (hids r hr')).2 i
    ·rw [ze hr',ze hr']
   rw [hsel]
   exact g4
  ·exact (hm.mb r i R h1).keep hr hle (by simp [Mp.back0,hi]) (fun g hg=>hkeep (.rw r i) g ⟨R,h1⟩ hi hg)
 ·rcases hcase p hp' with ⟨p0,h0,rfl⟩|⟨h0,hi0⟩
  ·rw [hblk1 p0 h0] at hgp
   rcases hcase q hq' with ⟨q0,k0,rfl⟩|⟨k0,ki0⟩
   ·rw [hblk1 q0 k0] at hgq
    rw [hm'.inj p0 q0 g h0 k0 hgp hgq]
   ·rw [hblk0 q ki0] at hgq
    exfalso
    rcases (hnew p0 g h0 hgp).2 with h|h
    ·have:=(hm.home k0 hgq).1;omega
    ·exact hframe q g k0 ki0 hgq h
  ·rw [hblk0 p hi0] at hgp
   rcases hcase q hq' with ⟨q0,k0,rfl⟩|⟨k0,ki0⟩
   ·rw [hblk1 q0 k0] at hgq
    exfalso
    rcases (hnew q0 g k0 hgq).2 with h|h
    ·have:=(hm.home h0 hgp).1;omega
    ·exact hframe p g h0 hi0 hgp h
   ·rw [hblk0 q ki0] at hgq
    exact hm.inj p q g h0 k0 hgp hgq
 ·have hinv:inv0 is y=none:=by
   cases hi:inv0 is y with
   | none=>rfl
   | some j=>
    exfalso
    obtain ⟨hyj,hj⟩:=qdz hi
    have hmem:y∈is:=by rw [← hyj];unfold nm0;simp [List.getD,hj]
    cases hk:look st y with
    | none=>exact hin y hmem hk
    | some x=>exact hm.ids y x hk hy
  simp only [Mp.back0,hinv]
  exact hm.fresh y hy
 ·rw [qdl hd hl1] at hx
  cases hi:inv0 is y with
  | none=>rw [hi] at hx;exact hm.ids y x hx
  | some j=>
   obtain ⟨hyj,hj⟩:=qdz hi
   have hmem:y∈is:=by rw [← hyj];unfold nm0;simp [List.getD,hj]
   cases hk:look st y with
   | none=>exact absurd hk (hin y hmem)
   | some x=>exact hm.ids y x hk
 ·rw [qdl hd hl1] at hl
  cases hin:inv0 is r with
  | none=>
   rw [hin] at hl
   simp only [Mp.back0,hin]
   exact hm.out _ _ _ _ _ _ _ hl i hi
  | some j=>
   rw [hin] at hl
   obtain ⟨o,ho,he⟩:=Option.map_eq_some_iff.1 hl
   cases o with
   | box=>simp [SO.ren] at he
   | row=>simp [SO.ren] at he
   | ro=>simp [SO.ren] at he
   | fam e0 sz0 cnt0 ep0 len0 f0=>
    simp only [SO.ren,SO.fam.injEq] at he
    obtain ⟨rfl,rfl,rfl,rfl,rfl,rfl⟩:=he
    simp only [Mp.back0,hin]
    exact hm'.out _ _ _ _ _ _ _ ho i hi
 ·rw [qdl hd hl1] at hl
  cases hin:inv0 is r with
  | none=>
   rw [hin] at hl
   obtain ⟨v,h1,h2⟩:=hm.ro _ _ _ _ _ hl
   exact ⟨v,by simp only [Mp.back0,hin];exact h1,h2.mono hr (Mp.le.refl _)⟩
  | some j=>
   rw [hin] at hl
   obtain ⟨o,ho,he⟩:=Option.map_eq_some_iff.1 hl
   cases o with
   | box=>simp [SO.ren] at he
   | row=>simp [SO.ren] at he
   | fam=>simp [SO.ren] at he
   | ro sz0 ep0 n0 f0=>
    simp only [SO.ren,SO.ro.injEq] at he
    obtain ⟨rfl,rfl,rfl,rfl⟩:=he
    obtain ⟨v,h1,h2⟩:=hm'.ro _ _ _ _ _ ho
    exact ⟨v,by simp only [Mp.back0,hin];exact h1,h2⟩
end Go.Sx
end
section
namespace Go.Sx
open Go Go.RowKit
def qli (wr:List Nat) (st:List (Nat × SO)):List (Nat × SO):=wr.filterMap fun y=>(look st y).map fun o=>(y,o)
theorem qpc {st:List (Nat × SO)} (y:Nat):∀ (wr:List Nat),look (qli wr st) y=if y∈wr then look st y else none
 | []=>rfl
 | q::wr=>by
  have ih:=qpc (st:=st) y wr
  unfold qli at ih ⊢
  rw [List.filterMap_cons]
  cases hq:look st q with
  | none=>
   simp only [Option.map_none]
   rw [ih]
   by_cases h:y=q
   ·subst h;simp [hq]
   ·simp [h]
  | some o=>
   simp only [xu]
   rw [qh,ih]
   by_cases h:q=y
   ·subst h;simp [hq]
   ·rw [ze h]
    have:y≠q:=fun e=>h e.symm
    simp [this]
inductive C3 where
 | con (res:AV)
 | new (args:List AV) (res:AV) (st1:List (Nat × SO)) (n1:Nat)
 | turn (is:List Nat) (args:List AV) (st0:List SO) (res:AV) (st1:List (Nat × SO))
def ftOf (T:Nat→TI) (C:Cfg) (s:ASt) (o:Oper):List Nat:=
 foot s o.op++(match o.guard with|none=>[]|some _=>(match aop T C s o.dst o.op with | .ok _ v=>nms v|_=>[]))
def d3op (E:Env) (full:Array Oper) (s:ASt) (o:Oper) (res:AV):Option (Pst × ASt):=
 match jf E full s o res with
 | some p=>
  match p.wr with
  | true=>bif (tgt s o.op).all (fun y=>(look p.st y).isSome) then some (⟨p.v,ftOf E.T E.C s o,qli (tgt s o.op) p.st,s.nx,s.nx+1,p.ob⟩,⟨jx s.sl o.dst p.v,p.st,s.nx+1⟩) else none
  | false=>some (⟨p.v,ftOf E.T E.C s o,[],s.nx,s.nx+1,p.ob⟩,⟨jx s.sl o.dst p.v,s.st,s.nx+1⟩)
 | none=>none
structure NewOb (P:Program) (f:FuncId) (args args':List AV) (res:AV) (st1:List (Nat × SO)) (n1:Nat):Prop where
 trip:Trip P f args' [] res st1 n1
 pure:args'.all AV.pure=true
 le:LeL args args'
 lt:stLt n1 st1=true
 rlt:res.lt n1=true
 rows:rowsLt n1 st1
def turnOk (is:List Nat) (args:List AV) (st0:List SO) (res:AV) (st1:List (Nat × SO)):Bool:=
 qij is && Nat.beq st0.length is.length && stLt st0.length (idx 0 st0) && args.all (AV.lt st0.length) && stLt is.length st1 && res.lt is.length
structure TurnOb (P:Program) (f:FuncId) (is:List Nat) (args args':List AV) (st0:List SO) (res:AV) (st1:List (Nat × SO)) (st:List (Nat × SO)):Prop where
 trip:Trip P f args' st0 res st1 is.length
 chk:turnOk is args' st0 res st1=true
 le:LeL args (args'.map (AV.ren (nm0 is)))
 nm:NamedL st (nm0 is) is st0
 rows0:rowsLt st0.length (idx 0 st0)
 rows1:rowsLt is.length st1
def d3step (E:Env) (full:Array Oper) (s:ASt) (o:Oper):C3→Option (Pst × ASt)
 | .con res=>d3op E full s o res
 | .new args' res st1 n1=>
  match qz E o.dst,o.guard,aop E.T E.C s o.dst o.op with
  | true,none,.call f args=>some (⟨res.ren (names [] s.nx),foot s o.op,qp (names [] s.nx) st1,s.nx,s.nx+n1+1,NewOb E.P f args args' res st1 n1⟩,⟨jx s.sl o.dst (res.ren (names [] s.nx)),qp (names [] s.nx) st1++s.st,s.nx+n1+1⟩)
  | _,_,_=>none
 | .turn is args' st0 res st1=>
  match qz E o.dst,o.guard,aop E.T E.C s o.dst o.op with
  | true,none,.call f args=>bif is.all (fun i=>(look (qp (nm0 is) st1) i).isSome) then some (⟨res.ren (nm0 is),foot s o.op++is,qp (nm0 is) st1,s.nx,s.nx+1,TurnOb E.P f is args args' st0 res st1 s.st⟩,⟨jx s.sl o.dst (res.ren (nm0 is)),qp (nm0 is) st1++qx is s.st,s.nx+1⟩) else none
  | _,_,_=>none
theorem jdz {sl sl':List (Nat × AV)} {st:List (Nat × SO)} {nx:Nat} (op:Op) (h:∀ x∈op.operands,ev ⟨sl,st,nx⟩ x=ev ⟨sl',st,nx⟩ x):tgt ⟨sl,st,nx⟩ op=tgt ⟨sl',st,nx⟩ op:=by
 cases op with
 | store t a x=>simp only [tgt];rw [h a (by simp [Op.operands])]
 | slice t x lo hi mx=>simp only [tgt];rw [h x (by simp [Op.operands])]
 | mapUpdate t x y z=>simp only [tgt];rw [h x (by simp [Op.operands])]
 | call cl=>
  obtain ⟨callee,⟨args⟩,ats⟩:=cl
  have ha:∀ x∈args,ev ⟨sl,st,nx⟩ x=ev ⟨sl',st,nx⟩ x:=fun x hx=>h x (by simp only [Op.operands,Call.operands];simp;exact .inr hx)
  simp only [tgt]
  rw [xj fun x hx=>by rw [ha x hx]]
 | _=>rfl
theorem qpd {E:Env} (hT:∀ t,E.T t=tab E.P t) {full:Array Oper} {s:ASt} {sl:List (Nat × AV)} {st:List (Nat × SO)} {o:Oper} (hsl:∀ t∈reads full o,getS sl t=s.get t) (hst:∀ y∈foot s o.op,look st y=look s.st y) :
  OLoc s.st st (tgt s o.op) (aop E.T E.C s o.dst o.op) (aop E.T E.C ⟨sl,st,s.nx⟩ o.dst o.op):=by
 obtain ⟨sl0,st0,nx0⟩:=s
 have hev:∀ x∈o.op.operands,ev ⟨sl,st0,nx0⟩ x=ev ⟨sl0,st0,nx0⟩ x:=qer (full:=full) (fun t ht=>hsl t ht)
 have h1:aop E.T E.C ⟨sl,st0,nx0⟩ o.dst o.op=aop E.T E.C ⟨sl0,st0,nx0⟩ o.dst o.op:=qgt o.dst o.op hev rfl rfl
 have h2:=jdz o.op hev
 have h3:=qtx (C:=E.C) hT (st:=st0) (st':=st) (sl:=sl) (nx:=nx0) (dst:=o.dst) o.op (fun y hy=>hst y (by rw [jbz o.op hev] at hy;exact hy))
 rw [h1,h2] at h3
 exact h3
theorem qui {E:Env} (hT:∀ t,E.T t=tab E.P t) {full:Array Oper} {s:ASt} {sl:List (Nat × AV)} {st:List (Nat × SO)} {o:Oper} {res:AV} {q:Stp} (h:jf E full s o res=some q)
  (hsl:∀ t∈reads full o,getS sl t=s.get t) (hst:∀ y∈ftOf E.T E.C s o,look st y=look s.st y) :
  ∃ q',jf E full ⟨sl,st,s.nx⟩ o res=some q'∧q'.v=q.v∧q'.wr=q.wr∧(q.ob→q'.ob)∧(q.wr=true→(∀ y∈tgt s o.op,look q'.st y=look q.st y)∧∀ y,y ∉ tgt s o.op→look q'.st y=look st y∧look q.st y=look s.st y):=by
 have hl:=qpd hT (full:=full) hsl (fun y hy=>hst y (by simp only [ftOf,xt];exact .inl hy))
 unfold jf at h ⊢
 cases hd:qz E o.dst with
 | false=>rw [hd] at h;cases h
 | true=>
  rw [hd] at h
  simp only at h ⊢
  cases hg:o.guard with
  | none=>
   rw [hg] at h
   simp only at h ⊢
   cases hr:aop E.T E.C s o.dst o.op with
   | ok ob v=>
    rw [hr] at h hl
    cases h
    rw [show aop E.T E.C ⟨sl,st,s.nx⟩ o.dst o.op=.ok ob v from hl]
    exact ⟨_,rfl,rfl,rfl,fun h=>h,fun h=>by cases h⟩
   | mem ob v st1 nx1=>
    rw [hr] at h hl
    cases h
    obtain ⟨st1',h1,h2,h3⟩:=hl
    rw [h1]
    exact ⟨_,rfl,rfl,rfl,fun h=>h,fun _=>⟨h2,h3⟩⟩
   | call f args=>
    rw [hr] at h hl
    cases h
    rw [show aop E.T E.C ⟨sl,st,s.nx⟩ o.dst o.op=.call f args from hl]
    exact ⟨_,rfl,rfl,rfl,fun h=>h,fun h=>by cases h⟩
   | bad=>rw [hr] at h;cases h
  | some jw=>
   obtain ⟨j,want⟩:=jw
   rw [hg] at h
   simp only at h ⊢
   cases hs:qan full j with
   | none=>rw [hs] at h;cases h
   | some d=>
    have hgd:ASt.get ⟨sl,st,s.nx⟩ d=s.get d:=hsl d (by simp [reads,hg,hs])
    rw [hs] at h
    simp only [xu] at h ⊢
    rw [hgd]
    cases hgb:qbn want (s.get d) with
    | none=>rw [hgb] at h;cases h
    | some g=>
     rw [hgb] at h
     simp only at h ⊢
     cases hr:aop E.T E.C s o.dst o.op with
     | ok ob v=>
      rw [hr] at h hl
      cases h
      have hv:Agree (nms v) s.st st:=fun y hy=>hst y (by simp only [ftOf,xt,hg,hr];exact .inr hy)
      rw [show aop E.T E.C ⟨sl,st,s.nx⟩ o.dst o.op=.ok ob v from hl]
      refine ⟨_,rfl,?_,rfl,?_,fun h=>by cases h⟩
      ·simp only [jo hv]
      ·simp only [js hv];exact fun h=>h
     | call f args=>
      rw [hr] at h hl
      cases h
      rw [show aop E.T E.C ⟨sl,st,s.nx⟩ o.dst o.op=.call f args from hl]
      exact ⟨_,rfl,rfl,rfl,fun h=>h,fun h=>by cases h⟩
     | mem ob v st1 nx1=>rw [hr] at h;cases h
     | bad=>rw [hr] at h;cases h
def freN (F:Nat→Prop) (a b:Nat):Nat→Nat→Prop:=fun n y=>(n≤y∧a≤y∧y<b)∨less F a b y
theorem qpe {c:Ctx} {F:Nat→Prop} {a b:Nat} (h:a<b):Sup (c.free (freN F a b)) a:=by
 refine ⟨.inl ⟨zj _,zj _,h⟩,fun i hi=>?_⟩
 rcases hi with ⟨h1,h2,h3⟩|⟨h1,h2⟩
 ·exact ⟨.inl ⟨by omega,h2,h3⟩,by omega⟩
 ·exact ⟨.inr ⟨h1,h2⟩,fun e=>h2 (by omega)⟩
theorem SF.sr {c:Ctx} {F:Nat→Prop} {rd:Rd} {mp:Mp} {sl:List (Nat × AV)} {st:List (Nat × SO)} {a:Act} {w:World} (h:SF c F rd mp sl st a w) {x y:Nat} (hF:∀ i,x≤i→i<y→F i):SR (c.free (freN F x y)) rd mp ⟨sl,st,x⟩ a w:=by
 refine ⟨h.slots,h.defers,?_⟩
 have:=h.mem.refre (F:=freN F x y) (nx':=x) (fun i hi=>by
  rcases hi with ⟨_,h2,h3⟩|⟨h1,_⟩
  ·exact hF i h2 h3
  ·exact h1)
 exact this
theorem jea {E:Env} (hT:∀ t,E.T t=tab E.P t) {full:Array Oper} {s s':ASt} {o:Oper} {res:AV} {p:Pst} (h:d3op E full s o res=some (p,s')) (hob:p.ob) {F:Nat→Prop} {sl:List (Nat × AV)} {st:List (Nat × SO)}
  (hsl:∀ t∈reads full o,getS sl t=s.get t) (hst:∀ y∈p.ft,look st y=look s.st y) (hF:∀ y,p.a≤y→y<p.b→F y):qha E full F sl st o p:=by
 unfold d3op at h
 cases hq:jf E full s o res with
 | none=>rw [hq] at h;cases h
 | some q=>
  rw [hq] at h
  simp only at h
  have key:p.v=q.v∧p.ft=ftOf E.T E.C s o∧p.a=s.nx∧p.b=s.nx+1∧p.ob=q.ob∧((q.wr=true∧p.ps=qli (tgt s o.op) q.st∧∀ y∈tgt s o.op,(look q.st y).isSome)∨(q.wr=false∧p.ps=[])):=by
   cases hw:q.wr with
   | true=>
    rw [hw] at h
    simp only at h
    cases hall:(tgt s o.op).all (fun y=>(look q.st y).isSome) with
    | false=>rw [hall] at h;cases h
    | true=>
     rw [hall] at h
     simp only [cond_true,Option.some.injEq,Prod.mk.injEq] at h
     obtain ⟨rfl,_⟩:=h
     exact ⟨rfl,rfl,rfl,rfl,rfl,.inl ⟨rfl,rfl,fun y hy=>List.all_eq_true.1 hall y hy⟩⟩
   | false=>
    rw [hw] at h
    simp only [Option.some.injEq,Prod.mk.injEq] at h
    obtain ⟨rfl,_⟩:=h
    exact ⟨rfl,rfl,rfl,rfl,rfl,.inr ⟨rfl,rfl⟩⟩
  obtain ⟨k1,k2,k3,k4,k5,k6⟩:=key
  rw [k2] at hst
  obtain ⟨q',g1,g2,g3,g4,g5⟩:=qui hT hq hsl hst
  intro rd mp a w hs hsz K Q hK
  have hsr:=hs.sr (x:=p.a) (y:=p.b) hF
  rw [k3] at hsr
  have hsnd:=qti (E:={ E with c:=E.c.free (freN F s.nx p.b) }) hT (full:=full) (s:=⟨sl,st,s.nx⟩) (o:=o) (res:=res) (p:=q') g1 (g4 (by rw [← k5];exact hob)) hsr (qpe (by omega)) hsz (K:=K) (Q:=Q)
  refine hsnd (fun x w' rd' mp' hr hm hmem hrel hdst=>hK x w' rd' mp' hr hm ?_ (by rw [k1,← g2];exact hrel) hdst)
  have h1:=hmem.refre (F:=fun _=>less F p.a p.b) (nx':=0) (fun i hi=>by rw [← k3];exact .inr hi)
  refine Mem.forget (c:=E.c.free fun _=>less F p.a p.b) h1 (fun y z hz=>?_)
  rw [g3]
  rcases k6 with ⟨hw,hps,hall⟩|⟨hw,hps⟩
  ·rw [hw,cond_true]
   obtain ⟨e1,e2⟩:=g5 hw
   rw [hps,qbp,qpc] at hz
   by_cases hy:y∈tgt s o.op
   ·rw [za hy] at hz
    rw [e1 y hy]
    cases hl:look q.st y with
    | none=>have:=hall y hy;rw [hl] at this;cases this
    | some u=>rw [hl] at hz;exact hz
   ·rw [ze hy] at hz
    rw [(e2 y hy).1]
    exact hz
  ·rw [hw,cond_false]
   rw [hps] at hz
   exact hz
theorem jeb {E:Env} (hT:∀ t,E.T t=tab E.P t) {full:Array Oper} {s s':ASt} {o:Oper} {args':List AV} {res:AV} {st1:List (Nat × SO)} {n1:Nat} {p:Pst} (h:d3step E full s o (.new args' res st1 n1)=some (p,s')) (hob:p.ob) {F:Nat→Prop} {sl:List (Nat × AV)} {st:List (Nat × SO)}
  (hsl:∀ t∈reads full o,getS sl t=s.get t) (hst:∀ y∈p.ft,look st y=look s.st y) (hF:∀ y,p.a≤y→y<p.b→F y):qha E full F sl st o p:=by
 simp only [d3step] at h
 cases hd:qz E o.dst with
 | false=>rw [hd] at h;cases h
 | true=>
  rw [hd] at h
  cases hg:o.guard with
  | some jw=>rw [hg] at h;cases h
  | none=>
   rw [hg] at h
   cases hr:aop E.T E.C s o.dst o.op with
   | ok=>rw [hr] at h;cases h
   | mem=>rw [hr] at h;cases h
   | bad=>rw [hr] at h;cases h
   | call f args=>
    rw [hr] at h
    simp only [Option.some.injEq,Prod.mk.injEq] at h
    obtain ⟨rfl,_⟩:=h
    simp only at hst hF
    have hl:=qpd hT (full:=full) hsl hst
    rw [hr] at hl
    have hl':aop E.T E.C ⟨sl,st,s.nx⟩ o.dst o.op=.call f args:=hl
    intro rd mp a w hs hsz K Q hK
    have hsr:=hs.sr (x:=s.nx) (y:=s.nx+n1+1) hF
    have hgood:=qgr (C:=E.C) hT hsr (qpe (by omega)) o
    rw [hl'] at hgood
    obtain ⟨vs,g1,g2⟩:=hgood
    have hob':NewOb E.P f args args' res st1 n1:=hob
    rw [za (by simp [Region.wanted,hg])]
    left
    have hdst:∀ d,o.dst=some d→d<a.tmps.size:=by
     intro d hd'
     rw [hd'] at hd
     simp only [qz,zaz] at hd
     rw [hsz]
     exact hd
    have hm0:Mem ⟨w,rd,fun _=>False,stdF⟩ rd Mp.none [] 0 w:=
     ⟨hs.mem.rdw,hs.mem.rd1,fun g o v h=>.inl h,⟨rfl,rfl,rfl,zj _,fun _ _ _=>rfl⟩,fun b ty cs hl=>by simp [look] at hl,fun r i R hR=>by cases hR with|row hl=>simp [look] at hl|fam hl _=>simp [look] at hl,
      fun p q g hp=>by cases p with|bx b=>obtain ⟨ty,cs,hl⟩:=hp;simp [look] at hl|rw r i=>(obtain ⟨R,hR⟩:=hp;cases hR with|row hl=>simp [look] at hl|fam hl _=>simp [look] at hl),
      fun i _=>⟨rfl,fun _=>rfl⟩,fun i x hx=>by simp [look] at hx,fun r e sz cnt ep len f hl=>by simp [look] at hl,fun r sz ep n f hl=>by simp [look] at hl,⟨hs.mem.tabR,fun _ _ h=>h⟩,Rd.le.refl _⟩
    have hinv:=hob'.trip _ rd Mp.none w vs rfl rfl rfl hm0 ((g2.le hob'.le).pure hob'.pure _)
    have step:∀ v w',(∃ rd' mp',Rel rd' mp' res v∧Rd.le rd rd'∧Mp.le Mp.none mp'∧Mem ⟨w,rd,fun _=>False,stdF⟩ rd' mp' st1 n1 w')→K (a.put o.dst v) w':=by
     rintro v w' ⟨rd',mp',h1,h2,_,h4⟩
     obtain ⟨hle,hmem⟩:=hs.mem.gain (a:=s.nx) (F:=fun _=>less F s.nx (s.nx+n1+1)) (nx':=0) h2 h4 hob'.lt hob'.rows (fun y ha hb=>hF y ha (by omega)) (fun y hy=>⟨hy.1,fun hh=>hy.2 ⟨hh.1,by omega⟩⟩)
     refine hK v w' rd' _ h2 hle hmem ?_ hdst
     exact (qet hob'.rlt).1 (h1.mono (Rd.le.refl _) (quc (fun i hi=>h4.fresh i hi)))
    unfold Oper.wp
    rw [g1]
    rcases hinv with ⟨h1,h2⟩|⟨v,w',h1,h2⟩
    ·rw [h1,Oper.upon_enter]
     refine h2.mono fun e w' he=>?_
     rcases he with ⟨v,he,hv⟩|⟨_,_,hv⟩
     ·subst he;exact step v w' hv
     ·exact False.elim hv
    ·rw [h1,Oper.upon_value]
     exact step v w' h2
theorem jec {E:Env} (hT:∀ t,E.T t=tab E.P t) {full:Array Oper} {s s':ASt} {o:Oper} {is:List Nat} {args':List AV} {st0:List SO} {res:AV} {st1:List (Nat × SO)} {p:Pst} (h:d3step E full s o (.turn is args' st0 res st1)=some (p,s')) (hob:p.ob) {F:Nat→Prop} {sl:List (Nat × AV)} {st:List (Nat × SO)}
  (hsl:∀ t∈reads full o,getS sl t=s.get t) (hst:∀ y∈p.ft,look st y=look s.st y) (hF:∀ y,p.a≤y→y<p.b→F y):qha E full F sl st o p:=by
 simp only [d3step] at h
 cases hd:qz E o.dst with
 | false=>rw [hd] at h;cases h
 | true=>
  rw [hd] at h
  cases hg:o.guard with
  | some jw=>rw [hg] at h;cases h
  | none=>
   rw [hg] at h
   cases hr:aop E.T E.C s o.dst o.op with
   | ok=>rw [hr] at h;cases h
   | mem=>rw [hr] at h;cases h
   | bad=>rw [hr] at h;cases h
   | call f args=>
    rw [hr] at h
    cases hcov:is.all (fun i=>(look (qp (nm0 is) st1) i).isSome) with
    | false=>rw [hcov] at h;cases h
    | true=>
    rw [hcov] at h
    simp only [cond_true,Option.some.injEq,Prod.mk.injEq] at h
    obtain ⟨rfl,_⟩:=h
    simp only at hst hF
    have hl:=qpd hT (full:=full) hsl (fun y hy=>hst y (xy _ hy))
    rw [hr] at hl
    have hl':aop E.T E.C ⟨sl,st,s.nx⟩ o.dst o.op=.call f args:=hl
    intro rd mp a w hs hsz K Q hK
    have hsr:=hs.sr (x:=s.nx) (y:=s.nx+1) hF
    have hgood:=qgr (C:=E.C) hT hsr (qpe (by omega)) o
    rw [hl'] at hgood
    obtain ⟨vs,g1,g2⟩:=hgood
    have hob':TurnOb E.P f is args args' st0 res st1 s.st:=hob
    have hchk:=hob'.chk
    simp only [turnOk,zh] at hchk
    obtain ⟨⟨⟨⟨⟨c1,c2⟩,c3⟩,c4⟩,c5⟩,c6⟩:=hchk
    have hnd:=qlc c1
    have hlen:st0.length=is.length:=zq c2
    rw [za (by simp [Region.wanted,hg])]
    left
    have hdst:∀ d,o.dst=some d→d<a.tmps.size:=by
     intro d hd'
     rw [hd'] at hd
     simp only [qz,zaz] at hd
     rw [hsz]
     exact hd
    obtain ⟨_,hnm'⟩:=hob'.nm.get
    have hl0:∀ p∈idx 0 st0,p.1<is.length:=by
     intro p hp
     have:=(List.all_eq_true.1 c3) p hp
     simp only [zh,zx] at this
     omega
    have hsub:SubL st (qp (nm0 is) (idx 0 st0)++qx is st):=by
     intro y x hx
     rw [qdl hnd hl0] at hx
     cases hi:inv0 is y with
     | none=>rw [hi] at hx;exact ⟨x,hx,SoLe.refl x⟩
     | some j=>
      rw [hi] at hx
      obtain ⟨o',ho,rfl⟩:=Option.map_eq_some_iff.1 hx
      rw [qkz,za (zv _),zbr] at ho
      obtain ⟨z,hz,hle⟩:=hnm' j o' ho
      obtain ⟨hyj,hj⟩:=qdz hi
      have hmem:y∈is:=by rw [← hyj];unfold nm0;simp [List.getD,hj]
      refine ⟨z,?_,hle⟩
      rw [hst y (List.mem_append_right _ hmem),← hyj]
      exact hz
    have hm1:=hs.mem.weak hsub
    have hnamed:Named (idx 0 st0) (qp (nm0 is) (idx 0 st0)++qx is st) (nm0 is):=by
     refine ⟨fun j o' hj=>?_⟩
     rw [qdl hnd hl0,qfu hnd (hl0 _ (qby hj))]
     show (look (idx 0 st0) j).map (SO.ren (nm0 is))=_
     rw [hj]
     rfl
    have hent:=hm1.enter hnamed c3 hob'.rows0 (fun i j hi hj h=>quf hnd (by omega) (by omega) h)
    have hargs0:RelL rd ((mp.pull (nm0 is)).restrict st0.length) args' vs:=by
     have h1:=g2.le hob'.le
     refine ⟨by rw [h1.1,xq],fun j x v hx hv=>?_⟩
     have hxl:=List.all_eq_true.1 c4 x (zp hx)
     exact ((qet hxl).2 (h1.2 j _ v (by rw [zm,hx];rfl) hv)).lt hxl
    have hinv:=hob'.trip _ rd _ w vs rfl rfl rfl hent hargs0
    have hin:∀ i∈is,look (qp (nm0 is) (idx 0 st0)++qx is st) i≠none:=by
     intro i hi
     rw [qdl hnd hl0]
     have:inv0 is i=some (is.idxOf i):=za hi
     rw [this]
     intro hno
     replace hno:=Option.map_eq_none_iff.1 hno
     revert hno
     rw [imp_false]
     rw [qkz,za (zv _),zbr,List.getElem?_eq_none_iff]
     have:=zbg hi
     omega
    have step:∀ v w',(∃ rd' mp',Rel rd' mp' res v∧Rd.le rd rd'∧Mp.le ((mp.pull (nm0 is)).restrict st0.length) mp'∧Mem ⟨w,rd,fun g=>∃ p,There (idx 0 st0) p∧blkOf mp (p.ren (nm0 is))=some g,stdF⟩ rd' mp' st1 is.length w')→K (a.put o.dst v) w':=by
     rintro v w' ⟨rd',mp',h1,h2,h3,h4⟩
     rw [hlen] at h3
     obtain ⟨hle,hpull,hfin⟩:=hm1.leave0 hnd hnamed hl0 h2 h4 c5 hob'.rows1 h3 hin
     have hfin1:=hfin.refre (F:=fun _=>less F s.nx (s.nx+1)) (nx':=0) (fun y hy=>hy.1)
     refine hK v w' rd' _ h2 hle ?_ ((qet c6).1 (h1.mono (Rd.le.refl _) hpull)) hdst
     refine Mem.forget (c:=E.c.free fun _=>less F s.nx (s.nx+1)) hfin1 (fun y x hx=>?_)
     have hl1:∀ p∈st1,p.1<is.length:=by
      intro p hp
      have:=(List.all_eq_true.1 c5) p hp
      simp only [zh,zx] at this
      omega
     rw [qbp] at hx ⊢
     cases hk:look (qp (nm0 is) st1) y with
     | some z=>rw [hk] at hx;exact hx
     | none=>
      rw [hk] at hx
      have hx':look st y=some x:=hx
      have hy:y ∉ is:=by
       intro hm
       have:=List.all_eq_true.1 hcov y hm
       rw [hk] at this;cases this
      show look (qx is (qp (nm0 is) (idx 0 st0)++qx is st)) y=some x
      rw [qft,ze hy,qdl hnd hl0]
      have:inv0 is y=none:=ze hy
      rw [this]
      exact hx'
    unfold Oper.wp
    rw [g1]
    rcases hinv with ⟨h1,h2⟩|⟨v,w',h1,h2⟩
    ·rw [h1,Oper.upon_enter]
     refine h2.mono fun e w' he=>?_
     rcases he with ⟨v,he,hv⟩|⟨_,_,hv⟩
     ·subst he;exact step v w' hv
     ·exact False.elim hv
    ·rw [h1,Oper.upon_value]
     exact step v w' h2
theorem jed {E:Env} (hT:∀ t,E.T t=tab E.P t) {full:Array Oper} {s s':ASt} {o:Oper} {x:C3} {p:Pst} (h:d3step E full s o x=some (p,s')) (hob:p.ob) {F:Nat→Prop} {sl:List (Nat × AV)} {st:List (Nat × SO)}
  (hsl:∀ t∈reads full o,getS sl t=s.get t) (hst:∀ y∈p.ft,look st y=look s.st y) (hF:∀ y,p.a≤y→y<p.b→F y):qha E full F sl st o p:=by
 cases x with
 | con res=>exact jea hT h hob hsl hst hF
 | new args' res st1 n1=>exact jeb hT h hob hsl hst hF
 | turn is args' st0 res st1=>exact jec hT h hob hsl hst hF
theorem jee {E:Env} (hT:∀ t,E.T t=tab E.P t) {full:Array Oper} {s s':ASt} {o:Oper} {x:C3} {p:Pst} (h:d3step E full s o x=some (p,s')) :
  s'.sl=jx s.sl o.dst p.v∧(∀ y,look s'.st y=look (p.ps++s.st) y)∧p.a=s.nx∧p.b=s'.nx∧s.nx<s'.nx:=by
 cases x with
 | new args' res st1 n1=>
  simp only [d3step] at h
  split at h
  ·simp only [Option.some.injEq,Prod.mk.injEq] at h
   obtain ⟨rfl,rfl⟩:=h
   exact ⟨rfl,fun y=>rfl,rfl,rfl,by simp only;omega⟩
  ·cases h
 | turn is args' st0 res st1=>
  simp only [d3step] at h
  split at h
  ·cases hcov:is.all (fun i=>(look (qp (nm0 is) st1) i).isSome) with
   | false=>rw [hcov] at h;cases h
   | true=>
    rw [hcov] at h
    simp only [cond_true,Option.some.injEq,Prod.mk.injEq] at h
    obtain ⟨rfl,rfl⟩:=h
    refine ⟨rfl,fun y=>?_,rfl,rfl,by simp only;omega⟩
    simp only
    rw [qbp,qbp,qft]
    cases hk:look (qp (nm0 is) st1) y with
    | some z=>rfl
    | none=>
     simp only
     rw [ze]
     intro hm
     have:=List.all_eq_true.1 hcov y hm
     rw [hk] at this;cases this
  ·cases h
 | con res=>
  simp only [d3step,d3op] at h
  cases hq:jf E full s o res with
  | none=>rw [hq] at h;cases h
  | some q=>
   rw [hq] at h
   simp only at h
   cases hw:q.wr with
   | false=>
    rw [hw] at h
    simp only [Option.some.injEq,Prod.mk.injEq] at h
    obtain ⟨rfl,rfl⟩:=h
    exact ⟨rfl,fun y=>rfl,rfl,rfl,by simp only;omega⟩
   | true=>
    rw [hw] at h
    simp only at h
    cases hall:(tgt s o.op).all (fun y=>(look q.st y).isSome) with
    | false=>rw [hall] at h;cases h
    | true=>
     rw [hall] at h
     simp only [cond_true,Option.some.injEq,Prod.mk.injEq] at h
     obtain ⟨rfl,rfl⟩:=h
     refine ⟨rfl,fun y=>?_,rfl,rfl,by simp only;omega⟩
     obtain ⟨q',g1,_,_,_,g5⟩:=qui (sl:=s.sl) (st:=s.st) hT hq (fun t _=>rfl) (fun y _=>rfl)
     obtain ⟨_,e2⟩:=g5 hw
     simp only
     rw [qbp,qpc]
     by_cases hy:y∈tgt s o.op
     ·rw [za hy]
      have:=List.all_eq_true.1 hall y hy
      cases hl:look q.st y with
      | none=>rw [hl] at this;cases this
      | some u=>rfl
     ·rw [ze hy]
      exact (e2 y hy).2
def jt (E:Env) (full:Array Oper):List Oper→List C3→ASt→Option (List (Oper × Pst) × ASt)
 | [],_,s=>some ([],s)
 | o::r,cs,s=>
  match jg o.op,cs with
  | true,x::cs=>
   match d3step E full s o x with
   | some (p,s')=>match jt E full r cs s' with|some (L,sE)=>some ((o,p)::L,sE)|none=>none
   | none=>none
  | true,[]=>none
  | false,cs=>
   match d3step E full s o (.con .any) with
   | some (p,s')=>match jt E full r cs s' with|some (L,sE)=>some ((o,p)::L,sE)|none=>none
   | none=>none
theorem jef {E:Env} {full:Array Oper} {o:Oper} {r:List Oper} {cs:List C3} {s:ASt} {L:List (Oper × Pst)} {sE:ASt} (h:jt E full (o::r) cs s=some (L,sE)) :
  ∃ x cs' p s' L',d3step E full s o x=some (p,s')∧jt E full r cs' s'=some (L',sE)∧L=(o,p)::L':=by
 have fin:∀ (x:C3) (cs':List C3),(match d3step E full s o x with
   | some (p,s')=>match jt E full r cs' s' with|some (L,sE)=>some ((o,p)::L,sE)|none=>none
   | none=>none)=some (L,sE)→∃ x cs' p s' L',d3step E full s o x=some (p,s')∧jt E full r cs' s'=some (L',sE)∧L=(o,p)::L':=by
  intro x cs' h
  cases h1:d3step E full s o x with
  | none=>rw [h1] at h;cases h
  | some q=>
   obtain ⟨p,s'⟩:=q
   rw [h1] at h
   simp only at h
   cases h2:jt E full r cs' s' with
   | none=>rw [h2] at h;cases h
   | some q=>
    obtain ⟨L',sE'⟩:=q
    rw [h2] at h
    simp only [Option.some.injEq,Prod.mk.injEq] at h
    obtain ⟨rfl,rfl⟩:=h
    exact ⟨x,cs',p,s',L',h1,h2,rfl⟩
 simp only [jt] at h
 split at h
 ·exact fin _ _ h
 ·cases h
 ·exact fin _ _ h
theorem qlg (M:List (Oper × Pst)):∀ (m b:Nat),b≤m→∀ s,slAt M m (fun j=>decide (j<b)) s=s:=by
 induction M with
 | nil=>intro m b _ s;rfl
 | cons y M ihM=>
  intro m b hb s
  obtain ⟨o'',p''⟩:=y
  simp only [slAt]
  have:decide (m<b)=false:=by simp;omega
  rw [this]
  exact ihM (m+1) b (by omega) s
theorem qlh (M:List (Oper × Pst)):∀ (m b:Nat),b≤m→∀ s,stAt M m (fun j=>decide (j<b)) s=s:=by
 induction M with
 | nil=>intro m b _ s;rfl
 | cons y M ihM=>
  intro m b hb s
  obtain ⟨o'',p''⟩:=y
  simp only [stAt]
  have:decide (m<b)=false:=by simp;omega
  rw [this]
  exact ihM (m+1) b (by omega) s
structure RunF (E:Env) (full:Array Oper) (l:List Oper) (k:Nat) (sl:List (Nat × AV)) (st:List (Nat × SO)) (nx:Nat) (L:List (Oper × Pst)) (sE:ASt):Prop where
 ops:L.map (·.1)=l
 step:∀ (i:Nat) x,L[i]?=some x→∃ si s' c,d3step E full si x.1 c=some (x.2,s')∧(∀ t,getS (slAt L k (fun j=>decide (j<k+i)) sl) t=si.get t)∧(∀ y,look (stAt L k (fun j=>decide (j<k+i)) st) y=look si.st y)
 rg:∀ (i j:Nat) x y,i<j→L[i]?=some x→L[j]?=some y→x.2.b≤y.2.a
 lo:∀ (i:Nat) x,L[i]?=some x→nx≤x.2.a
 hi:∀ (i:Nat) x,L[i]?=some x→x.2.b≤sE.nx
 le:nx≤sE.nx
 slE:∀ t,getS (slAt L k (fun _=>true) sl) t=sE.get t
 stE:∀ y,look (stAt L k (fun _=>true) st) y=look sE.st y
theorem jeg {E:Env} (hT:∀ t,E.T t=tab E.P t) {full:Array Oper}:∀ (l:List Oper) (cs:List C3) (k:Nat) (s:ASt) (st0:List (Nat × SO)) (L:List (Oper × Pst)) (sE:ASt),(∀ y,look st0 y=look s.st y)→jt E full l cs s=some (L,sE)→RunF E full l k s.sl st0 s.nx L sE:=by
 intro l
 induction l with
 | nil=>
  intro cs k s st0 L sE h0 h
  simp only [jt,Option.some.injEq,Prod.mk.injEq] at h
  obtain ⟨rfl,rfl⟩:=h
  exact ⟨rfl,fun i x hx=>by simp at hx,fun i j x y _ hx=>by simp at hx,fun i x hx=>by simp at hx,fun i x hx=>by simp at hx,zj _,fun t=>rfl,h0⟩
 | cons o r ih=>
  intro cs k s st0 L sE h0 h
  obtain ⟨x,cs',p,s',L',h1,h2,rfl⟩:=jef h
  obtain ⟨n1,n2,n3,n4,n5⟩:=jee hT h1
  have hIH:=ih cs' (k+1) s' (p.ps++st0) L' sE (fun y=>by rw [n2,qbp,qbp,h0]) h2
  rw [n1] at hIH
  refine ⟨by simp [hIH.ops],fun i z hz=>?_,fun i j z y hij hz hy=>?_,fun i z hz=>?_,fun i z hz=>?_,by have:=hIH.le;omega,hIH.slE,hIH.stE⟩
  ·cases i with
   | zero=>
    simp at hz
    subst hz
    refine ⟨s,s',x,h1,fun t=>?_,fun y=>?_⟩
    ·simp only [zac]
     rw [qlg _ k k (zj _)]
     rfl
    ·simp only [zac]
     rw [qlh _ k k (zj _)]
     exact h0 y
   | succ i=>
    simp at hz
    obtain ⟨si,s'',c,g1,g2,g3⟩:=hIH.step i z hz
    refine ⟨si,s'',c,g1,fun t=>?_,fun y=>?_⟩
    ·have:=g2 t
     simp only [slAt]
     have e:decide (k<k+(i+1))=true:=by simp
     rw [e,show k+(i+1)=k+1+i by omega]
     exact this
    ·have:=g3 y
     simp only [stAt]
     have e:decide (k<k+(i+1))=true:=by simp
     rw [e,show k+(i+1)=k+1+i by omega]
     exact this
  ·cases j with
   | zero=>omega
   | succ j=>
    simp at hy
    cases i with
    | zero=>
     simp at hz
     subst hz
     have:=hIH.lo j y hy
     simp only
     omega
    | succ i=>
     simp at hz
     exact hIH.rg i j z y (by omega) hz hy
  ·cases i with
   | zero=>simp at hz;subst hz;simp only;omega
   | succ i=>simp at hz;have:=hIH.lo i z hz;omega
  ·cases i with
   | zero=>simp at hz;subst hz;simp only;have:=hIH.le;omega
   | succ i=>simp at hz;exact hIH.hi i z hz
def qim:List (Oper × Pst)→Prop
 | []=>True
 | (_,p)::r=>p.ob∧qim r
theorem quj:∀ {L:List (Oper × Pst)},qim L→∀ (i:Nat) x,L[i]?=some x→x.2.ob
 | [],_,i,x,h=>by simp at h
 | (o,p)::r,h,i,x,hx=>by
  cases i with
  | zero=>simp at hx;subst hx;exact h.1
  | succ i=>simp at hx;exact quj h.2 i x hx
theorem jeh {E:Env} {B:Nat→ASt→Prop} {id:Nat} {ops:Array Oper} {k:List Itm} {s sE:ASt} (hT:∀ t,E.T t=tab E.P t) (hmix:E.P.follows .mixedOrders=true) (n:Nat) (cs:List C3) {L:List (Oper × Pst)} (hL:jt E ops ops.toList cs s=some (L,sE))
  (hord:qeu ops L=true) (hob:qim L) (h:exec E B n k sE):qav E B id ops k s:=by
 unfold qav
 intro rd mp a w hs hrd hsz
 show (Code.region id ops true).wp E.P (QK E B k) a w
 have hf:=jeg hT ops.toList cs 0 s s.st L sE (fun _=>rfl) hL
 have hlen:L.length=ops.size:=by have:=congrArg List.length hf.ops;simpa using this
 have hstep:∀ (i:Nat) x,L[i]?=some x→∀ S,Adm ops L.length S i→qha E ops (qil L sE.nx S) (slAt L 0 S s.sl) (stAt L 0 S s.st) x.1 x.2:=by
  intro i x hx S hS
  obtain ⟨si,s',c,g1,g2,g3⟩:=hf.step i x hx
  simp only [zw] at g2 g3
  have agree:∀ (j:Nat) y,L[j]?=some y→qbk ops y x=true→S j=decide (j<i):=by
   intro j y hy hc1
   have hj:j<ops.size:=by rw [← hlen];exact (List.getElem?_eq_some_iff.1 hy).1
   have hc2:qbk ops x y=true:=by rw [← que];exact hc1
   rcases Nat.lt_trichotomy j i with h|h|h
   ·simp only [h,decide_true];exact hS.anc j (qlf hord h hy hx hc1)
   ·subst h;simp only [Nat.lt_irrefl,decide_false];exact hS.self
   ·have:¬ j<i:=by omega
    simp only [this,decide_false]
    exact hS.desc j (qlf hord h hx hy hc2) hj
  refine jed hT g1 (quj hob i x hx) (fun t ht=>?_) (fun y hy=>?_) (fun y h1 h2=>.inr ⟨i,x,hx,hS.self,h1,h2⟩)
  ·rw [← g2 t]
   refine qld t L 0 _ _ s.sl s.sl rfl (fun j y hy hd=>?_)
   rw [zw]
   refine agree j y hy ?_
   have:hits ops y.1 x.1=true:=by simp [hits,hd,ht]
   simp [qbk,this]
  ·rw [← g3 y]
   refine qle y L 0 _ _ s.st s.st rfl (fun j z hz hw=>?_)
   rw [zw]
   refine agree j z hz ?_
   simp [qbk,jdv hw hy]
 refine wp_region_any hmix (jdy hf.ops hstep hf.rg hf.hi hf.slE hf.stE hord hrd.std (qba hT n _ _ h) _ _ a _ (by simp) (by simp) (fun j o _ hj=>?_) hsz ⟨rd,mp,?_,hrd⟩)
 ·rw [qif] at hj
  cases hj
 ·have hz:∀ (L:List (Oper × Pst)) (i:Nat) (s:List (Nat × AV)),slAt L i (fun i=>(Array.replicate ops.size false).getD i false) s=s:=by
   intro L
   induction L with
   | nil=>intro i s;rfl
   | cons y L ih=>
    intro i s
    obtain ⟨o,p⟩:=y
    simp only [slAt]
    rw [qif]
    exact ih (i+1) s
  have hz':∀ (L:List (Oper × Pst)) (i:Nat) (s:List (Nat × SO)),stAt L i (fun i=>(Array.replicate ops.size false).getD i false) s=s:=by
   intro L
   induction L with
   | nil=>intro i s;rfl
   | cons y L ih=>
    intro i s
    obtain ⟨o,p⟩:=y
    simp only [stAt]
    rw [qif]
    exact ih (i+1) s
  rw [hz,hz']
  refine ⟨hs.slots,hs.defers,(hs.mem.below ((Below.refl _ _).drew)).refre (fun y hy=>?_)⟩
  rw [hrd.std]
  rcases hy with hy|⟨i,x,hx,_,h1,_⟩
  ·exact zr hf.le hy
  ·exact zr (hf.lo i x hx) h1
def qbb (E:Env) (B:Nat→ASt→Prop) (n:Nat) (k:List Itm) (full:Array Oper):List Oper→List C3→ASt→Prop
 | [],_,s=>exec E B n k s
 | ⟨dst,op,ty,pos,aft,guard⟩::rest,cs,⟨sl,st,nx⟩=>
  match qz E dst with
  | false=>False
  | true=>
   match guard with
   | none=>
    match aop E.T E.C ⟨sl,st,nx⟩ dst op with
    | .ok ob v=>bif jg op then False else cj ob (frcN (nx+1) fun nx=>frc v (qt sl dst (fun sl'=>qbb E B n k full rest cs ⟨sl',st,nx⟩)))
    | .mem ob v st' _=>bif jg op then False else cj ob (frcN (nx+1) fun nx'=>je st' fun st'=>frc v (qt sl dst (fun sl'=>qbb E B n k full rest cs ⟨sl',st',nx'⟩)))
    | .call f args=>
     match jg op,cs with
     | true,.con x::cs=>frcL args fun args=>Ob (qbs E.P f args x) (frcN (nx+1) fun nx=>qt sl dst (fun sl'=>qbb E B n k full rest cs ⟨sl',st,nx⟩) x)
     | true,.new args' x st1 n1::cs=>frcL args fun args=>Ob (NewOb E.P f args args' x st1 n1) (je (qp (names [] nx) st1++st) fun st'=>frcN (nx+n1+1) fun nx'=>frc (x.ren (names [] nx)) (qt sl dst (fun sl'=>qbb E B n k full rest cs ⟨sl',st',nx'⟩)))
     | true,.turn is args' st0 x st1::cs=>frcL args fun args=>Ob (TurnOb E.P f is args args' st0 x st1 st) (je (qp (nm0 is) st1++qx is st) fun st'=>frcN (nx+1) fun nx'=>frc (x.ren (nm0 is)) (qt sl dst (fun sl'=>qbb E B n k full rest cs ⟨sl',st',nx'⟩)))
     | _,_=>False
    | .bad=>False
   | some (j,want)=>
    match (qan full j).map (ASt.get ⟨sl,st,nx⟩) with
    | some x=>
     match qbn want x with
     | some g=>
      match aop E.T E.C ⟨sl,st,nx⟩ dst op with
      | .ok ob v=>bif jg op then False else cj (gob g (andO (qm st v) ob)) (frcN (nx+1) fun nx=>frc (strip st v) (fun v'=>qt sl dst (fun sl'=>qbb E B n k full rest cs ⟨sl',st,nx⟩) (.cnd g v')))
      | .call f args=>
       match jg op,cs with
       | true,.con x::cs=>frcL args fun args=>Ob (g=true→qbs E.P f args x) (frcN (nx+1) fun nx=>qt sl dst (fun sl'=>qbb E B n k full rest cs ⟨sl',st,nx⟩) (.cnd g x))
       | _,_=>False
      | _=>False
     | none=>False
    | none=>False
theorem jei {E:Env} {B:Nat→ASt→Prop} {n:Nat} {k:List Itm} {full:Array Oper}:∀ (l:List Oper) (cs:List C3) (s:ASt) (L:List (Oper × Pst)) (sE:ASt),jt E full l cs s=some (L,sE)→qbb E B n k full l cs s→qim L∧exec E B n k sE:=by
 intro l
 induction l with
 | nil=>
  intro cs s L sE h1 h
  simp only [jt,Option.some.injEq,Prod.mk.injEq] at h1
  obtain ⟨rfl,rfl⟩:=h1
  exact ⟨trivial,h⟩
 | cons o rest ih=>
  intro cs s L sE h1 h
  obtain ⟨dst,op,ty,pos,aft,guard⟩:=o
  obtain ⟨sl,st,nx⟩:=s
  have fin:∀ (x:C3) (cs':List C3),(match d3step E full ⟨sl,st,nx⟩ ⟨dst,op,ty,pos,aft,guard⟩ x with
    | some (p,s')=>match jt E full rest cs' s' with|some (L,sE)=>some (((⟨dst,op,ty,pos,aft,guard⟩:Oper),p)::L,sE)|none=>none
    | none=>none)=some (L,sE)→(∀ p s',d3step E full ⟨sl,st,nx⟩ ⟨dst,op,ty,pos,aft,guard⟩ x=some (p,s')→p.ob∧qbb E B n k full rest cs' s')→qim L∧exec E B n k sE:=by
   intro x cs' h1 h2
   cases g1:d3step E full ⟨sl,st,nx⟩ ⟨dst,op,ty,pos,aft,guard⟩ x with
   | none=>rw [g1] at h1;cases h1
   | some q=>
    obtain ⟨p,s'⟩:=q
    rw [g1] at h1
    simp only at h1
    obtain ⟨hob,hk⟩:=h2 p s' g1
    cases g2:jt E full rest cs' s' with
    | none=>rw [g2] at h1;cases h1
    | some q=>
     obtain ⟨L',sE'⟩:=q
     rw [g2] at h1
     simp only [Option.some.injEq,Prod.mk.injEq] at h1
     obtain ⟨rfl,rfl⟩:=h1
     obtain ⟨hob',hk'⟩:=ih cs' s' L' _ g2 hk
     exact ⟨⟨hob,hob'⟩,hk'⟩
  simp only [qbb] at h
  cases hd:qz E dst with
  | false=>rw [hd] at h;exact False.elim h
  | true=>
   rw [hd] at h
   simp only at h
   cases guard with
   | none=>
    simp only at h
    cases hr:aop E.T E.C ⟨sl,st,nx⟩ dst op with
    | ok ob v=>
     rw [hr] at h
     cases hc:jg op with
     | true=>simp only [hc,cond_true] at h
     | false=>
      simp only [hc,cond_false,jr,ja,qu] at h
      obtain ⟨hob,hk⟩:=qfn h
      simp only [jt,hc] at h1
      refine fin _ _ h1 (fun p s' hp=>?_)
      simp only [d3step,d3op,jf,hd,hr,Option.some.injEq,Prod.mk.injEq] at hp
      obtain ⟨rfl,rfl⟩:=hp
      exact ⟨hob,hk⟩
    | mem ob v st' nx'=>
     rw [hr] at h
     cases hc:jg op with
     | true=>simp only [hc,cond_true] at h
     | false=>
      simp only [hc,cond_false,jr,ja,qu,jq] at h
      obtain ⟨hob,hk⟩:=qfn h
      simp only [jt,hc] at h1
      refine fin _ _ h1 (fun p s' hp=>?_)
      simp only [d3step,d3op,jf,hd,hr] at hp
      cases hall:(tgt ⟨sl,st,nx⟩ op).all (fun y=>(look st' y).isSome) with
      | false=>rw [hall] at hp;cases hp
      | true=>
       rw [hall] at hp
       simp only [cond_true,Option.some.injEq,Prod.mk.injEq] at hp
       obtain ⟨rfl,rfl⟩:=hp
       exact ⟨hob,hk⟩
    | call f args=>
     rw [hr] at h
     simp only at h
     split at h
     ·rename_i x cs0 hc
      simp only [qcb,ja,qu] at h
      simp only [jt,hc] at h1
      refine fin _ _ h1 (fun p s' hp=>?_)
      simp only [d3step,d3op,jf,hd,hr,Option.some.injEq,Prod.mk.injEq] at hp
      obtain ⟨rfl,rfl⟩:=hp
      exact ⟨Ob.left h,Ob.right h⟩
     ·rename_i args' x st1 n1 cs0 hc
      simp only [qcb,ja,qu,jq,jr] at h
      simp only [jt,hc] at h1
      refine fin _ _ h1 (fun p s' hp=>?_)
      simp only [d3step,hd,hr,Option.some.injEq,Prod.mk.injEq] at hp
      obtain ⟨rfl,rfl⟩:=hp
      exact ⟨Ob.left h,Ob.right h⟩
     ·rename_i is args' st0 x st1 cs0 hc
      simp only [qcb,ja,qu,jq,jr] at h
      simp only [jt,hc] at h1
      refine fin _ _ h1 (fun p s' hp=>?_)
      simp only [d3step,hd,hr] at hp
      cases hcov:is.all (fun i=>(look (qp (nm0 is) st1) i).isSome) with
      | false=>rw [hcov] at hp;cases hp
      | true=>
       rw [hcov] at hp
       simp only [cond_true,Option.some.injEq,Prod.mk.injEq] at hp
       obtain ⟨rfl,rfl⟩:=hp
       exact ⟨Ob.left h,Ob.right h⟩
     ·exact False.elim h
    | bad=>rw [hr] at h;exact False.elim h
   | some jw=>
    obtain ⟨j,want⟩:=jw
    simp only at h
    split at h
    ·rename_i y hy
     split at h
     ·rename_i g hg
      split at h
      ·rename_i ob v hr
       cases hc:jg op with
       | true=>simp only [hc,cond_true] at h
       | false=>
        simp only [hc,cond_false,jr,ja,qu] at h
        obtain ⟨hob,hk⟩:=qfn h
        simp only [jt,hc] at h1
        refine fin _ _ h1 (fun p s' hp=>?_)
        simp only [d3step,d3op,jf,hd,hy,hg,hr,Option.some.injEq,Prod.mk.injEq] at hp
        obtain ⟨rfl,rfl⟩:=hp
        refine ⟨fun hgt=>?_,hk⟩
        generalize andO (qm st v) ob=oo at hob
        cases oo with
        | none=>trivial
        | some p=>exact hob hgt
      ·rename_i f args hr
       split at h
       ·rename_i x cs0 hc
        simp only [qcb,ja,qu] at h
        simp only [jt,hc] at h1
        refine fin _ _ h1 (fun p s' hp=>?_)
        simp only [d3step,d3op,jf,hd,hy,hg,hr,Option.some.injEq,Prod.mk.injEq] at hp
        obtain ⟨rfl,rfl⟩:=hp
        exact ⟨Ob.left h,Ob.right h⟩
       ·exact False.elim h
      ·exact False.elim h
     ·exact False.elim h
    ·exact False.elim h
theorem draw3 {E:Env} {B:Nat→ASt→Prop} {id:Nat} {ops:Array Oper} {k:List Itm} {s:ASt} (hT:∀ t,E.T t=tab E.P t) (hmix:E.P.follows .mixedOrders=true) (n:Nat) (cs:List C3)
  (hord:(match jt E ops ops.toList cs s with|some (L,_)=>qeu ops L|none=>false)=true) (h:qbb E B n k ops ops.toList cs s):qav E B id ops k s:=by
 cases h1:jt E ops ops.toList cs s with
 | none=>rw [h1] at hord;cases hord
 | some q=>
  obtain ⟨L,sE⟩:=q
  rw [h1] at hord
  obtain ⟨h2,h3⟩:=jei _ _ _ _ _ h1 h
  exact jeh hT hmix n cs h1 hord h2 h3
def kept (sl:List (Nat × AV)):List Nat→List (Nat × AV)
 | []=>[]
 | t::r=>(t,(look sl t).getD .any)::kept sl r
def qhb (sl:List (Nat × AV)):List Nat→(List (Nat × AV)→Prop)→Prop
 | [],K=>K []
 | t::r,K=>frcA ((look sl t).getD .any) fun v=>qhb sl r fun l=>K ((t,v)::l)
theorem qpf (sl:List (Nat × AV)):∀ (ts:List Nat) (K:List (Nat × AV)→Prop),qhb sl ts K=K (kept sl ts)
 | [],_=>rfl
 | t::r,K=>by simp only [qhb,qnu];rw [qpf sl r];rfl
def qad (st:List (Nat × SO)):List Nat→List (Nat × SO)
 | []=>[]
 | i::r=>match look st i with|some o=>(i,o)::qad st r|none=>qad st r
theorem qin {s:ASt}:∀ {l m:List (Nat × AV)},SubSl s l→SubSl s m→SubSl s (l++m)
 | [],_,_,h=>h
 | (_,_)::_,_,h,k=>⟨h.1,qin h.2 k⟩
theorem qpg {st:List (Nat × SO)} {nx:Nat} (sl:List (Nat × AV)):∀ ts:List Nat,SubSl ⟨sl,st,nx⟩ (kept sl ts)
 | []=>trivial
 | _::r=>⟨Le.refl _,qpg sl r⟩
theorem qio {st:List (Nat × SO)}:∀ {l m:List (Nat × SO)},SubSt st l→SubSt st m→SubSt st (l++m)
 | [],_,_,h=>h
 | (_,_)::_,_,h,k=>⟨h.1,qio h.2 k⟩
theorem qlj (st:List (Nat × SO)):∀ is:List Nat,SubSt st (qad st is)
 | []=>trivial
 | i::r=>by
  unfold qad
  cases h:look st i with
  | none=>exact qlj st r
  | some o=>exact ⟨by rw [h];exact SoLe.refl o,qlj st r⟩
theorem jej {sl:List (Nat × AV)} {st:List (Nat × SO)} {nx:Nat} {E:Env} {B:Nat→ASt→Prop} {body:Code} {k:List Itm} (hT:∀ t,E.T t=tab E.P t) (n lvl:Nat) (keep keepS:List Nat) {G:Type} (ov:G→List (Nat × AV)) (so:G→List (Nat × SO)) (φ:G→Prop) (μ:G→Nat)
  (g0:G) (h0:φ g0) (hs0:SubSl ⟨sl,st,nx⟩ (ov g0)) (ht0:SubSt st (so g0)) (hcl:∀ g,(ASt.mk (ov g++kept sl keep) (so g++qad st keepS) nx).closed E.nxb=true) (hmk:qfp lvl k=true)
  (round:qhb sl keep fun kl=>je (qad st keepS) fun ks=>∀ g,φ g→exec E (fun m s'=>bif Nat.beq m lvl then ∃ g',φ g'∧(SubSl s' (ov g')∧SubSt s'.st (so g'))∧(SubSl s' kl∧SubSt s'.st ks)∧μ g' < μ g else B m s') n (.code body::.mark lvl::k) ⟨ov g++kl,so g++ks,nx⟩):qca E B body k ⟨sl,st,nx⟩:=by
 rw [qpf,jq] at round
 unfold qca
 intro rd mp a w hs hrd hsz
 show (Code.loop body).wp E.P (QK E B k) a w
 refine wp_loop_ghost (fun m a w=>a.tmps.size=E.fn.ntmps∧∃ rd mp g,SR E.c rd mp ⟨ov g++kept sl keep,so g++qad st keepS,nx⟩ a w∧Base E rd mp∧φ g∧μ g=m) (μ g0)
  ⟨hsz,rd,_,g0,hs.sub hrd.std (s':=⟨ov g0++kept sl keep,so g0++qad st keepS,nx⟩) ⟨qin hs0 (qpg sl keep),qio ht0 (qlj st keepS)⟩ (hcl g0),hrd.sub (hcl g0),h0,rfl⟩ ?_
 rintro m a w ⟨hsz,rd,mp,g,hs,hrd,hφ,rfl⟩
 have hok:=qba (E:=E) hT n _ _ (round g hφ) rd mp a w hs hrd hsz
 refine wp_mono hok fun e a' w' hq=>?_
 have pass:QK E (fun m s'=>bif Nat.beq m lvl then ∃ g',φ g'∧(SubSl s' (ov g')∧SubSt s'.st (so g'))∧(SubSl s' (kept sl keep)∧SubSt s'.st (qad st keepS))∧μ g' < μ g else B m s') k e a' w'→QK E B k e a' w':=
  qth (E:=E) (B:=B) lvl (fun n s hn hb=>by
   have:Nat.beq n lvl=false:=by
    cases hb':Nat.beq n lvl with
    | false=>rfl
    | true=>exact absurd (zq hb') hn
   simpa [this] using hb) k hmk e a' w'
 cases e with
 | normal=>
  obtain ⟨h1,rd',mp',s',h2,h3,h4⟩:=hq
  simp only [Nat.beq_refl,cond_true] at h4
  obtain ⟨g',hg1,k2,k3,hg3⟩:=h4
  exact ⟨μ g',hg3,h1,rd',_,g',h2.sub h3.std (s':=⟨ov g'++kept sl keep,so g'++qad st keepS,nx⟩) ⟨qin k2.1 k3.1,qio k2.2 k3.2⟩ (hcl g'),h3.sub (hcl g'),hg1,rfl⟩
 | _=>exact pass hq
section
variable {c:Ctx} {rd:Rd} {mp:Mp} {st:List (Nat × SO)} {nx:Nat} {w:World}
theorem Mem.rebox (h:Mem c rd mp st nx w) {id:Nat} {ty:TypeId} {cs cs':List AV} (hl:look st id=some (.box ty cs)) (hlen:cs'.length=cs.length)
  (hrel:∀ (j:Nat) x y v,cs'[j]?=some x→cs[j]?=some y→Rel rd mp y v→Rel rd mp x v):Mem c rd mp (setSt st id (.box ty cs')) nx w:=by
 obtain ⟨b,vs,h1,h2,h3,h4,h5,h6⟩:=h.bx id _ _ hl
 have hne:∀ p,There st p→some p≠some (Pl.bx id)→∀ g,blkOf mp p=some g→g≠b:=by
  intro p hp hne g hg e
  subst e
  exact hne (congrArg some (h.inj p (.bx id) g hp ⟨ty,cs,hl⟩ hg h1))
 refine h.upd (some (.bx id)) (Rd.le.refl _) (Mp.le.refl _) h.fr h.rdw h.rd1 h.rdn (fun b' ty' cs' hl' hne'=>?_) (fun r i R hR _=>qru hl hR)
  (fun p hp hp'=>⟨by cases p <;> rfl,fun g hg=>⟨rfl,(h.home hp hg).2.1⟩⟩) (fun b' ty' cs'' ht hl'=>?_) (fun r i R ht=>by cases ht)
  (fun p g ht _ hg q hq hq' hg'=>?_) h.fresh (fun i y hy=>?_) (fun r e sz cnt ep len f hl'=>?_) (fun r sz ep n f hl'=>?_)
 ·rw [qd,ze (by rintro rfl;exact hne' rfl)] at hl'
  exact hl'
 ·cases ht
  rw [qd,za rfl,hl] at hl'
  cases hl'
  refine ⟨b,vs,h1,h2,by rw [hlen];exact h3,fun j x' v' hx hv=>?_,h5,h6⟩
  have hj:j<cs.length:=by rw [← hlen];exact (List.getElem?_eq_some_iff.1 hx).1
  exact hrel j x' _ v' hx (zb hj) (h4 j _ v' (zb hj) hv)
 ·cases ht
  simp only [blkOf,h1] at hg
  cases hg
  exact hne q hq hq' b hg' rfl
 ·rw [qd] at hy
  by_cases hid:i=id
  ·subst hid;exact h.ids i _ hl
  ·rw [ze hid] at hy;exact h.ids i y hy
 ·rw [qd] at hl'
  by_cases hid:r=id
  ·subst hid;rw [za rfl,hl] at hl';cases hl'
  ·rw [ze hid] at hl';exact h.out r e sz cnt ep len f hl'
 ·rw [qd] at hl'
  by_cases hid:r=id
  ·subst hid;rw [za rfl,hl] at hl';cases hl'
  ·rw [ze hid] at hl';exact ⟨hl',rfl⟩
end
section
variable {c:Ctx} {rd:Rd} {mp:Mp} {st:List (Nat × SO)} {nx:Nat} {w:World}
def Mp.addFam (mp:Mp) (id n:Nat):Mp:=⟨mp.blk,fun r i=>if r=id then (if i<n then some (.slice Option.none 0 0,0,0) else Option.none) else mp.row r i⟩
theorem Mp.le_addFam {id n:Nat} (h:∀ j,mp.row id j=Option.none):Mp.le mp (mp.addFam id n):=
 ⟨fun _ _ h=>h,fun r i v e m hr=>by
  refine ⟨v,e,m,?_,.inr ⟨rfl,.inr ⟨rfl,rfl⟩⟩⟩
  simp only [Mp.addFam]
  by_cases hri:r=id
  ·subst hri;rw [h] at hr;cases hr
  ·rw [ze hri];exact hr⟩
theorem Mem.newFam (h:Mem c rd mp st nx w) (hsup:Sup c nx) (e:TypeId) (sz n:Nat) :
  Mem c rd (mp.addFam nx n) ((nx,.fam e sz n (fun _=>0) (fun _=>0) (fun _ _=>[]))::st) (nx+1) w:=by
 have hle:Mp.le mp (mp.addFam nx n):=Mp.le_addFam (h.fresh nx hsup.here).2
 have hkeep:∀ r i,r≠nx→(mp.addFam nx n).row r i=mp.row r i:=fun r i hr=>by simp only [Mp.addFam];rw [ze hr]
 have hth:∀ p,There ((nx,SO.fam e sz n (fun _=>0) (fun _=>0) (fun _ _=>[]))::st) p→∀ g,blkOf (mp.addFam nx n) p=some g→There st p∧blkOf mp p=some g:=by
  intro p hp g hg
  cases p with
  | bx b=>
   obtain ⟨ty,cs,hl⟩:=hp
   rw [qh] at hl
   split at hl
   ·cases hl
   ·exact ⟨⟨ty,cs,hl⟩,hg⟩
  | rw r i=>
   obtain ⟨R,hR⟩:=hp
   by_cases hr:nx=r
   ·subst hr
    exfalso
    simp only [blkOf,Mp.addFam,za] at hg
    by_cases hi:i<n
    ·rw [za hi] at hg;simp [Value.ownBlock] at hg
    ·rw [ze hi] at hg;cases hg
   ·refine ⟨⟨R,qjx hR hr⟩,?_⟩
    simp only [blkOf] at hg ⊢
    rwa [hkeep r i (Ne.symm hr)] at hg
 refine ⟨h.rdw,h.rd1,h.rdn,h.fr,fun b ty cs hl=>?_,fun r i R hR=>?_,fun p q g hp hq hgp hgq=>?_,fun i hi=>?_,fun i x hx=>?_,fun r e' sz' cnt ep len f hl i hi=>?_,fun r sz' ep n' f hl=>?_,h.tab⟩
 ·rw [qh] at hl
  split at hl
  ·cases hl
  ·exact (h.bx b ty cs hl).keep (Rd.le.refl _) hle (fun g hg=>⟨rfl,(h.home (p:=.bx b) ⟨ty,cs,hl⟩ hg).2.1⟩)
 ·by_cases hr:nx=r
  ·subst hr
   cases hR with
   | row hl=>rw [qh,za rfl] at hl;cases hl
   | fam hl hi=>
    rw [qh,za rfl] at hl
    cases hl
    refine ⟨.slice none 0 0,[],?_,⟨by simp,.inl ⟨rfl,rfl⟩⟩,fun k hk=>absurd hk (zo k),fun k j x hk=>absurd hk (zo k),fun g hg=>by simp [Value.ownBlock] at hg⟩
    simp only [Mp.addFam,za,za hi]
  ·have hR':=qjx hR hr
   exact (h.mb r i R hR').keep (Rd.le.refl _) hle (hkeep r i (Ne.symm hr)) (fun g hg=>⟨rfl,(h.home (p:=.rw r i) ⟨R,hR'⟩ hg).2.1⟩)
 ·obtain ⟨hp',hg1⟩:=hth p hp g hgp
  obtain ⟨hq',hg2⟩:=hth q hq g hgq
  exact h.inj p q g hp' hq' hg1 hg2
 ·obtain ⟨h1,h2⟩:=hsup.next i hi
  have:=h.fresh i h1
  exact ⟨this.1,fun j=>by rw [hkeep i j h2];exact this.2 j⟩
 ·rw [qh] at hx
  by_cases hi:nx=i
  ·subst hi;exact fun hf=>(hsup.next _ hf).2 rfl
  ·rw [ze hi] at hx;exact fun hf=>h.ids _ _ hx (hsup.next _ hf).1
 ·rw [qh] at hl
  by_cases hr:nx=r
  ·subst hr
   rw [za rfl] at hl
   cases hl
   simp only [Mp.addFam,za]
   rw [ze (by omega)]
  ·rw [ze hr] at hl
   rw [hkeep r i (Ne.symm hr)]
   exact h.out r e' sz' cnt ep len f hl i hi
 ·rw [qh] at hl
  by_cases hr:nx=r
  ·rw [za hr] at hl;cases hl
  ·rw [ze hr] at hl
   obtain ⟨v,h1,h2⟩:=h.ro r sz' ep n' f hl
   exact ⟨v,by rw [hkeep r 0 (Ne.symm hr)];exact h1,h2⟩
theorem qph {id:Nat} {o:SO} {r i:Nat} {R:RowV} (hr:r≠id) (h:IsMem (setSt st id o) r i R):IsMem st r i R:=by
 cases h with
 | row hl=>rw [qd,ze hr] at hl;exact .row hl
 | fam hl hi=>rw [qd,ze hr] at hl;exact .fam hl hi
theorem Mem.rerow (h:Mem c rd mp st nx w) {id:Nat} {ids ids':List Nat} {e:TypeId} {sz ep n:Nat} {f f':Nat→List AV} (hl:look st id=some (.row ids e sz ep n f)) (hlen:∀ k,k<n→(f' k).length=sz)
  (hrel:∀ (k j:Nat) x y v,k<n→(f' k)[j]?=some x→(f k)[j]?=some y→Rel rd (mp.sel ids) y v→Rel rd (mp.sel ids') x v):Mem c rd mp (setSt st id (.row ids' e sz ep n f')) nx w:=by
 obtain ⟨v,xs,h1,h2,h3,h4,h5⟩:=h.mb id 0 _ (.row hl)
 simp only at h1 h2 h3 h4 h5
 refine h.upd (some (.rw id 0)) (Rd.le.refl _) (Mp.le.refl _) h.fr h.rdw h.rd1 h.rdn (fun b' ty' cs' hl' hne'=>?_) (fun r i R hR hne=>?_)
  (fun p hp hp'=>⟨by cases p <;> rfl,fun g hg=>⟨rfl,(h.home hp hg).2.1⟩⟩) (fun b' ty' cs'' ht hl'=>by cases ht) (fun r i R ht hR=>?_)
  (fun p g ht hp hg q hq hq' hg'=>?_) h.fresh (fun i y hy=>?_) (fun r e' sz' cnt ep' len f'' hl'=>?_) (fun r sz' ep' n' f'' hl'=>?_)
 ·rw [qd] at hl'
  by_cases hb:b'=id
  ·rw [za hb,hb,hl] at hl';cases hl'
  ·rw [ze hb] at hl';exact hl'
 ·by_cases hr:r=id
  ·subst hr
   cases hR with
   | row hl'=>exact absurd rfl hne
   | fam hl' _=>rw [qd,za rfl,hl] at hl';cases hl'
  ·exact qph hr hR
 ·simp only [Option.some.injEq,Pl.rw.injEq] at ht
  obtain ⟨rfl,rfl⟩:=ht
  cases hR with
  | row hl'=>
   rw [qd,za rfl,hl] at hl'
   cases hl'
   refine ⟨v,xs,h1,h2,hlen,fun k j x hk hx=>?_,h5⟩
   simp only at hk hx ⊢
   have hj:j<(f k).length:=by rw [h3 k hk,← hlen k hk];exact (List.getElem?_eq_some_iff.1 hx).1
   obtain ⟨u,hu,h6,h7⟩:=h4 k j _ hk (zb hj)
   exact ⟨u,hu,h6,hrel k j x _ u hk hx (zb hj) h7⟩
  | fam hl' _=>rw [qd,za rfl,hl] at hl';cases hl'
 ·cases ht
  exact absurd (congrArg some (h.inj q (.rw id 0) g hq ⟨_,.row hl⟩ hg' hg)) hq'
 ·rw [qd] at hy
  by_cases hid:i=id
  ·subst hid;exact h.ids i _ hl
  ·rw [ze hid] at hy;exact h.ids i y hy
 ·rw [qd] at hl'
  by_cases hid:r=id
  ·subst hid;rw [za rfl,hl] at hl';cases hl'
  ·rw [ze hid] at hl';exact h.out r e' sz' cnt ep' len f'' hl'
 ·rw [qd] at hl'
  by_cases hid:r=id
  ·subst hid;rw [za rfl,hl] at hl';cases hl'
  ·rw [ze hid] at hl';exact ⟨hl',rfl⟩
def Turn (E:Env) (s s':ASt):Prop:=∀ rd mp a w,SR E.c rd mp s a w→Base E rd mp→∃ mp',SR E.c rd mp' s' a w∧Base E rd mp'
theorem Turn.trans {E:Env} {s s' s'':ASt} (h:Turn E s s') (k:Turn E s' s''):Turn E s s'':=fun rd mp a w h1 h2=>by
 obtain ⟨mp',h3,h4⟩:=h rd mp a w h1 h2
 exact k rd mp' a w h3 h4
theorem jek {E:Env} {B:Nat→ASt→Prop} {body:Code} {k:List Itm} {s s':ASt} (ht:Turn E s s') (h:qca E B body k s'):qca E B body k s:=by
 unfold qca at h ⊢
 intro rd mp a w hs hb hsz
 obtain ⟨mp',h1,h2⟩:=ht rd mp a w hs hb
 exact h rd mp' a w h1 h2 hsz
theorem Turn.nils {E:Env} {sl:List (Nat × AV)} (id:Nat) (e':TypeId) (sz':Nat) {e:TypeId} {ep n:Nat} {f:Nat→List AV} (hl:look st id=some (.row [] e 1 ep n f)) (hf:∀ k,k<n→f k=[.nils]) :
  Turn E ⟨sl,st,nx⟩ ⟨sl,(nx,.fam e' sz' n (fun _=>0) (fun _=>0) (fun _ _=>[]))::setSt st id (.row [nx] e 1 ep n (fun k=>[.own nx k 0 0])),nx+1⟩:=by
 intro rd mp a w hs hb
 have hsup:Sup E.c nx:=Sup.std hb.std nx
 have hfr:=hs.mem.fresh nx hsup.here
 have hmem:=hs.mem.newFam hsup e' sz' n
 have hle:Mp.le mp (mp.addFam nx n):=Mp.le_addFam hfr.2
 have hbn:nx≠id:=by rintro rfl;exact hs.mem.ids _ _ hl hsup.here
 have hl2:look ((nx,SO.fam e' sz' n (fun _=>0) (fun _=>0) (fun _ _=>[]))::st) id=some (.row [] e 1 ep n f):=by rw [qh,ze hbn];exact hl
 have hm2:=hmem.rerow (ids':=[nx]) (f':=fun k=>[.own nx k 0 0]) hl2 (fun _ _=>rfl) (fun k j x y v hk hx hy hr=>by
  rw [hf k hk] at hy
  cases j with
  | succ j=>simp at hy
  | zero=>
   simp only [zao,Option.some.injEq] at hx hy
   subst hx hy
   cases hr
   exact .own _ _ _ _ _ _ (.slice none 0 0) 0 0 (by simp only [Mp.sel,zk,za,Mp.addFam,za hk]) (zj _) (fun _=>zj _) (fun _ _=>rfl) rfl)
 have hset:∀ o,setSt ((nx,SO.fam e' sz' n (fun _=>0) (fun _=>0) (fun _ _=>[]))::st) id o=(nx,SO.fam e' sz' n (fun _=>0) (fun _=>0) (fun _ _=>[]))::setSt st id o:=fun o=>by
  have:Nat.beq nx id=false:=by
   cases hb':Nat.beq nx id with
   | false=>rfl
   | true=>exact absurd (zq hb') hbn
  simp only [setSt,this,cond_false]
 rw [hset] at hm2
 exact ⟨_,⟨fun t=>(hs.slots t).mono (Rd.le.refl _) hle,hs.defers,hm2⟩,hb.step (Rd.le.refl _) hle⟩
end
def qip:List (Nat × SO)→Bool
 | []=>true
 | (_,.row ids _ _ _ _ _)::r=>ids.isEmpty && qip r
 | _::r=>qip r
theorem qdb {n:Nat}:∀ {st:List (Nat × SO)},qip st=true→rowsLt n st
 | [],_=>fun j ids e sz ep m f hl=>by simp [look] at hl
 | (i,o)::r,h=>fun j ids e sz ep m f hl hne=>by
  rw [qh] at hl
  by_cases hi:i=j
  ·rw [za hi] at hl
   cases hl
   simp only [qip,zh,List.isEmpty_iff] at h
   exact absurd h.1 hne
  ·rw [ze hi] at hl
   refine qdb (st:=r) ?_ j ids e sz ep m f hl hne
   cases o <;> simp only [qip,zh] at h <;> first|exact h.2|exact h
theorem jel {ids:List Nat} {e:TypeId} {sz ep n:Nat} {f f':Nat→List AV} (h:∀ k,k<n→f k=f' k):SoLe (.row ids e sz ep n f) (.row ids e sz ep n f'):=
 ⟨⟨rfl,rfl,rfl⟩,rfl,rfl,fun k hk=>LeL.of_eq (h k hk)⟩
def qpi:List Oper→List Nat
 | []=>[]
 | ⟨some d,_,_,_,_,_⟩::r=>d::qpi r
 | ⟨none,_,_,_,_,_⟩::r=>qpi r
def qcj:Code→List Nat
 | .region _ ops _=>qpi ops.toList
 | .seq a b=>qcj a++qcj b
 | .cond _ a b=>qcj a++qcj b
 | .block _ b=>qcj b
 | .loop b=>qcj b
 | .scope b=>qcj b
 | _=>[]
def qlk:List Operand→List Nat→List Nat
 | [],acc=>acc
 | .tmp t::r,acc=>t::qlk r acc
 | _::r,acc=>qlk r acc
def qpj:List Oper→List Nat→List Nat
 | [],acc=>acc
 | o::r,acc=>qlk o.op.operands.toList (qpj r acc)
def rdOf:Code→List Nat→List Nat
 | .region _ ops _,acc=>qpj ops.toList acc
 | .seq a b,acc=>rdOf a (rdOf b acc)
 | .cond o a b,acc=>qlk [o] (rdOf a (rdOf b acc))
 | .block _ b,acc=>rdOf b acc
 | .loop b,acc=>rdOf b acc
 | .scope b,acc=>rdOf b acc
 | _,acc=>acc
def qev:List Itm→List Nat→List Nat
 | [],acc=>acc
 | .code c::k,acc=>rdOf c (qev k acc)
 | .ops _ l::k,acc=>qpj l (qev k acc)
 | _::k,acc=>qev k acc
def qfv:List ResultVar→List Nat
 | []=>[]
 | .tmp t::r=>t::qfv r
 | .cell t _::r=>t::qfv r
def inB:List Nat→Nat→Bool
 | [],_=>false
 | x::r,t=>bif Nat.beq x t then true else inB r t
def qew (asg live:List Nat):List (Nat × AV)→List Nat→List Nat
 | [],_=>[]
 | (t,_)::r,seen=>bif inB seen t then qew asg live r seen else bif inB asg t || !inB live t then qew asg live r (t::seen) else t::qew asg live r (t::seen)
def qfw (turn:List (Nat × SO)):List (Nat × SO)→List Nat
 | []=>[]
 | (i,_)::r=>bif inB (turn.map (·.1)) i then qfw turn r else i::qfw turn r
theorem qw {sl:List (Nat × AV)} {st:List (Nat × SO)} {nx:Nat} {E:Env} {B:Nat→ASt→Prop} {body:Code} {k:List Itm} (hT:∀ t,E.T t=tab E.P t) (n lvl:Nat) {G:Type} (ov:G→List (Nat × AV)) (so:G→List (Nat × SO)) (φ:G→Prop) (μ:G→Nat)
  (g0:G) (h0:φ g0) (hs0:SubSl ⟨sl,st,nx⟩ (ov g0)) (ht0:SubSt st (so g0)) (hcl:∀ g,(ASt.mk (ov g++kept sl (qew (qcj body++(ov g0).map (·.1)) (rdOf body (qev k (qfv E.fn.results.toList))) sl [])) (so g++qad st (qfw (so g0) st)) nx).closed E.nxb=true) (hmk:qfp lvl k=true)
  (round:qhb sl (qew (qcj body++(ov g0).map (·.1)) (rdOf body (qev k (qfv E.fn.results.toList))) sl []) fun kl=>je (qad st (qfw (so g0) st)) fun ks=>∀ g,φ g→exec E (fun m s'=>bif Nat.beq m lvl then ∃ g',φ g'∧(SubSl s' (ov g')∧SubSt s'.st (so g'))∧(SubSl s' kl∧SubSt s'.st ks)∧μ g' < μ g else B m s') n (.code body::.mark lvl::k) ⟨ov g++kl,so g++ks,nx⟩):qca E B body k ⟨sl,st,nx⟩:=
 jej hT n lvl _ _ ov so φ μ g0 h0 hs0 ht0 hcl hmk round
def CallX {α:Type} (p q:α→Prop):Prop:=∃ x,p x∧q x
theorem CallX.intro {α:Type} {p q:α→Prop} (x:α) (h:p x) (k:q x):CallX p q:=⟨x,h,k⟩
theorem CallX.ex {α:Type} {p q:α→Prop} (h:CallX p q):∃ x,p x∧q x:=h
def OrdG (b:Bool):Prop:=b=true
theorem OrdG.intro {b:Bool} (h:b=true):OrdG b:=h
theorem OrdG.is {b:Bool} (h:OrdG b):b=true:=h
theorem cj_iff {ob:Option DP} {r:Prop}:cj ob r↔obT ob∧r:=by
 cases ob with
 | none=>simp [cj,obT]
 | some d=>exact ⟨fun h=>⟨Ob.left h,Ob.right h⟩,fun h=>Ob.intro h.1 h.2⟩
def DX (E:Env) (B:Nat→ASt→Prop) (n:Nat) (k:List Itm) (full:Array Oper) (ord:List AV→Bool):List Oper→List AV→ASt→Prop
 | [],acc,s=>Ob (OrdG (ord acc)) (exec E B n k s)
 | ⟨dst,op,_,_,_,guard⟩::rest,acc,⟨sl,st,nx⟩=>
  match qz E dst with
  | false=>False
  | true=>
   match guard with
   | none=>
    match aop E.T E.C ⟨sl,st,nx⟩ dst op with
    | .ok ob v=>bif jg op then False else cj ob (frc v (qt sl dst (fun sl'=>DX E B n k full ord rest acc ⟨sl',st,nx⟩)))
    | .mem ob v st' nx'=>bif jg op then False else cj ob (frcN nx' fun nx'=>je st' fun st'=>frc v (qt sl dst (fun sl'=>DX E B n k full ord rest acc ⟨sl',st',nx'⟩)))
    | .call f args=>bif jg op then (frcL args fun args=>CallX (qbs E.P f args) fun x=>qt sl dst (fun sl'=>DX E B n k full ord rest (acc++[x]) ⟨sl',st,nx⟩) x) else False
    | .bad=>False
   | some (j,want)=>
    match (qan full j).map (ASt.get ⟨sl,st,nx⟩) with
    | some x=>
     match qbn want x with
     | some g=>
      match aop E.T E.C ⟨sl,st,nx⟩ dst op with
      | .ok ob v=>bif jg op then False else cj (gob g (andO (qm st v) ob)) (frc (strip st v) (fun v'=>qt sl dst (fun sl'=>DX E B n k full ord rest acc ⟨sl',st,nx⟩) (.cnd g v')))
      | .call f args=>bif jg op then (frcL args fun args=>CallX (fun x=>g=true→qbs E.P f args x) fun x=>qt sl dst (fun sl'=>DX E B n k full ord rest (acc++[x]) ⟨sl',st,nx⟩) (.cnd g x)) else False
      | _=>False
     | none=>False
    | none=>False
def D3X (E:Env) (B:Nat→ASt→Prop) (n:Nat) (k:List Itm) (full:Array Oper) (ord:List C3→Bool):List Oper→List C3→ASt→Prop
 | [],acc,s=>Ob (OrdG (ord acc)) (exec E B n k s)
 | ⟨dst,op,_,_,_,guard⟩::rest,acc,⟨sl,st,nx⟩=>
  match qz E dst with
  | false=>False
  | true=>
   match guard with
   | none=>
    match aop E.T E.C ⟨sl,st,nx⟩ dst op with
    | .ok ob v=>bif jg op then False else cj ob (frcN (nx+1) fun nx=>frc v (qt sl dst (fun sl'=>D3X E B n k full ord rest acc ⟨sl',st,nx⟩)))
    | .mem ob v st' _=>bif jg op then False else cj ob (frcN (nx+1) fun nx'=>je st' fun st'=>frc v (qt sl dst (fun sl'=>D3X E B n k full ord rest acc ⟨sl',st',nx'⟩)))
    | .call f args=>bif jg op then (frcL args fun args=>CallX (qbs E.P f args) fun x=>frcN (nx+1) fun nx=>qt sl dst (fun sl'=>D3X E B n k full ord rest (acc++[.con x]) ⟨sl',st,nx⟩) x) else False
    | .bad=>False
   | some (j,want)=>
    match (qan full j).map (ASt.get ⟨sl,st,nx⟩) with
    | some x=>
     match qbn want x with
     | some g=>
      match aop E.T E.C ⟨sl,st,nx⟩ dst op with
      | .ok ob v=>bif jg op then False else cj (gob g (andO (qm st v) ob)) (frcN (nx+1) fun nx=>frc (strip st v) (fun v'=>qt sl dst (fun sl'=>D3X E B n k full ord rest acc ⟨sl',st,nx⟩) (.cnd g v')))
      | .call f args=>bif jg op then (frcL args fun args=>CallX (fun x=>g=true→qbs E.P f args x) fun x=>frcN (nx+1) fun nx=>qt sl dst (fun sl'=>D3X E B n k full ord rest (acc++[.con x]) ⟨sl',st,nx⟩) (.cnd g x)) else False
      | _=>False
     | none=>False
    | none=>False
theorem jem {E:Env} {B:Nat→ASt→Prop} {n:Nat} {k:List Itm} {full:Array Oper} {ord:List C3→Bool}:∀ (l:List Oper) (acc:List C3) (s:ASt),D3X E B n k full ord l acc s→
  ∃ cs,ord (acc++cs)=true∧qbb E B n k full l cs s:=by
 intro l
 induction l with
 | nil=>intro acc s h;exact ⟨[],by rw [zas];exact (Ob.left h).is,Ob.right h⟩
 | cons o rest ih=>
  intro acc s h
  obtain ⟨dst,op,ty,pos,aft,guard⟩:=o
  obtain ⟨sl,st,nx⟩:=s
  simp only [D3X] at h
  cases hd:qz E dst with
  | false=>simp only [hd] at h
  | true=>
   simp only [hd] at h
   cases guard with
   | none=>
    simp only at h
    cases hr:aop E.T E.C ⟨sl,st,nx⟩ dst op with
    | bad=>simp only [hr] at h
    | ok ob v=>
     simp only [hr] at h
     cases hc:jg op with
     | true=>simp only [hc,cond_true] at h
     | false=>
      simp only [hc,cond_false,qu,jr,ja] at h
      obtain ⟨hob,hk⟩:=cj_iff.1 h
      obtain ⟨cs,h1,h2⟩:=ih _ _ hk
      exact ⟨cs,h1,by simp only [qbb,hd,hr,hc,cond_false,qu,jr,ja];exact cj_iff.2 ⟨hob,h2⟩⟩
    | mem ob v st' nx'=>
     simp only [hr] at h
     cases hc:jg op with
     | true=>simp only [hc,cond_true] at h
     | false=>
      simp only [hc,cond_false,qu,jq,jr,ja] at h
      obtain ⟨hob,hk⟩:=cj_iff.1 h
      obtain ⟨cs,h1,h2⟩:=ih _ _ hk
      exact ⟨cs,h1,by simp only [qbb,hd,hr,hc,cond_false,qu,jq,jr,ja];exact cj_iff.2 ⟨hob,h2⟩⟩
    | call f args=>
     simp only [hr] at h
     cases hc:jg op with
     | false=>simp only [hc,cond_false] at h
     | true=>
      simp only [hc,cond_true,qcb] at h
      obtain ⟨x,hx,hk⟩:=h.ex
      simp only [qu,ja] at hk
      obtain ⟨cs,h1,h2⟩:=ih _ _ hk
      exact ⟨.con x::cs,by rw [xe] at h1;exact h1,by simp only [qbb,hd,hr,hc,qcb,qu,ja];exact Ob.intro hx h2⟩
   | some jw=>
    obtain ⟨j,want⟩:=jw
    simp only at h
    cases hy:(qan full j).map (ASt.get ⟨sl,st,nx⟩) with
    | none=>simp only [hy] at h
    | some y=>
     simp only [hy] at h
     cases hg:qbn want y with
     | none=>simp only [hg] at h
     | some g=>
      simp only [hg] at h
      cases hr:aop E.T E.C ⟨sl,st,nx⟩ dst op with
      | bad=>simp only [hr] at h
      | mem=>simp only [hr] at h
      | ok ob v=>
       simp only [hr] at h
       cases hc:jg op with
       | true=>simp only [hc,cond_true] at h
       | false=>
        simp only [hc,cond_false,qu,jr,ja] at h
        obtain ⟨hob,hk⟩:=cj_iff.1 h
        obtain ⟨cs,h1,h2⟩:=ih _ _ hk
        exact ⟨cs,h1,by simp only [qbb,hd,hy,hg,hr,hc,cond_false,qu,jr,ja];exact cj_iff.2 ⟨hob,h2⟩⟩
      | call f args=>
       simp only [hr] at h
       cases hc:jg op with
       | false=>simp only [hc,cond_false] at h
       | true=>
        simp only [hc,cond_true,qcb] at h
        obtain ⟨x,hx,hk⟩:=h.ex
        simp only [qu,ja] at hk
        obtain ⟨cs,h1,h2⟩:=ih _ _ hk
        exact ⟨.con x::cs,by rw [xe] at h1;exact h1,by simp only [qbb,hd,hy,hg,hr,hc,qcb,qu,ja];exact Ob.intro hx h2⟩
theorem jen {E:Env} {B:Nat→ASt→Prop} {id:Nat} {ops:Array Oper} {k:List Itm} {s:ASt} (hT:∀ t,E.T t=tab E.P t) (hmix:E.P.follows .mixedOrders=true) (n:Nat)
  (h:D3X E B n k ops (fun cs=>match jt E ops ops.toList cs s with|some (L,_)=>qeu ops L|none=>false) ops.toList [] s):qav E B id ops k s:=by
 obtain ⟨cs,h1,h2⟩:=jem _ _ _ h
 exact draw3 hT hmix n cs h1 h2
theorem jeo {P:Program} {f:FuncId} {args:List AV} {res:AV} {g:Bool} (h:g=true→Con P f (args.map unc) res) (hg:qes g args) (hp:(args.map unc).all AV.pure=true):g=true→qbs P f args res:=fun e=>⟨args.map unc,h e,hp,qig e _ hg⟩
attribute [irreducible] CallX OrdG
section
variable {c:Ctx} {rd:Rd} {mp:Mp} {st:List (Nat × SO)} {nx:Nat} {w:World}
theorem qex {o:SO} {i:Nat}:∀ {ks:List Nat},look (qad st ks) i=some o→look st i=some o∧i∈ks
 | [],h=>by simp [qad,look] at h
 | k::ks,h=>by
  unfold qad at h
  cases hk:look st k with
  | none=>rw [hk] at h;obtain ⟨h1,h2⟩:=qex (ks:=ks) h;exact ⟨h1,xg _ h2⟩
  | some y=>
   rw [hk] at h
   simp only [qh] at h
   by_cases hki:k=i
   ·rw [za hki] at h;cases h;subst hki;exact ⟨hk,xm ..⟩
   ·rw [ze hki] at h;obtain ⟨h1,h2⟩:=qex (ks:=ks) h;exact ⟨h1,xg _ h2⟩
def quk:Pl→Nat
 | .bx b=>b
 | .rw r _=>r
theorem There.kept {ks:List Nat} {p:Pl} (h:There (qad st ks) p):There st p∧quk p∈ks:=by
 cases p with
 | bx b=>obtain ⟨ty,cs,hl⟩:=h;exact ⟨⟨ty,cs,(qex hl).1⟩,(qex hl).2⟩
 | rw r i=>
  obtain ⟨R,hR⟩:=h
  cases hR with
  | row hl=>exact ⟨⟨_,.row (qex hl).1⟩,(qex hl).2⟩
  | fam hl hi=>exact ⟨⟨_,.fam (qex hl).1 hi⟩,(qex hl).2⟩
theorem Mem.dropped (hm:Mem c rd mp st nx w) (ks:List Nat):Mem c rd mp (qx ks st) nx w:=hm.forget fun i x hx=>by
 rw [qft] at hx
 split at hx
 ·cases hx
 ·exact hx
end

def SO.plain:SO→Bool
 | .row [] _ _ _ _ _=>true
 | _=>false
section
variable {c:Ctx} {rd:Rd} {mp:Mp} {st:List (Nat × SO)} {nx:Nat} {w:World}
theorem Mem.names (hm:Mem c rd mp st nx w) (hstd:c.fre=stdF) (ι:Nat→Nat) {st':List (Nat × SO)} {n:Nat} (hl:∀ i x,look st' i=some x→look st (ι i)=some x∧x.plain=true∧i<n)
  (hinj:∀ i j,i<n→j<n→ι i=ι j→i=j):Mem c rd ((mp.pull ι).restrict n) st' n w:=by
 have hmem:∀ r' i R,IsMem st' r' i R→IsMem st (ι r') i R∧R.ids=[]∧r'<n∧i=0:=by
  intro r' i R hR
  cases hR with
  | row h=>
   obtain ⟨h1,h2,h3⟩:=hl _ _ h
   rename_i ids e sz ep m f
   cases ids with
   | nil=>exact ⟨.row h1,rfl,h3,rfl⟩
   | cons a b=>simp [SO.plain] at h2
  | fam h _=>obtain ⟨_,h2,_⟩:=hl _ _ h;simp [SO.plain] at h2
 have hth:∀ p,There st' p→∃ r',p=.rw r' 0∧r'<n∧There st (.rw (ι r') 0):=by
  intro p hp
  cases p with
  | bx b=>obtain ⟨ty,cs,h⟩:=hp;obtain ⟨_,h2,_⟩:=hl _ _ h;simp [SO.plain] at h2
  | rw r' i=>obtain ⟨R,hR⟩:=hp;obtain ⟨h1,_,h3,rfl⟩:=hmem _ _ _ hR;exact ⟨r',rfl,h3,R,h1⟩
 have hblk:∀ r',r'<n→blkOf ((mp.pull ι).restrict n) (.rw r' 0)=blkOf mp (.rw (ι r') 0):=by
  intro r' hr;simp only [blkOf,Mp.restrict,Mp.pull,za hr]
 refine ⟨hm.rdw,hm.rd1,hm.rdn,hm.fr,fun b ty cs h=>?_,fun r' i R hR=>?_,fun p q g hp hq hgp hgq=>?_,fun i hi=>?_,fun i x h=>?_,fun r' e' sz' cnt ep' len f' h=>?_,fun r' sz' ep' n' f' h=>?_,hm.tab⟩
 ·obtain ⟨_,h2,_⟩:=hl _ _ h;simp [SO.plain] at h2
 ·obtain ⟨h0,hids,hr,rfl⟩:=hmem _ _ _ hR
  obtain ⟨v,xs,h1,h2,h3,h4,h5⟩:=hm.mb _ _ _ h0
  refine ⟨v,xs,by simp only [Mp.restrict,Mp.pull,za hr];exact h1,h2,h3,fun k j x hk hx=>?_,h5⟩
  obtain ⟨u,h6,h7,h8⟩:=h4 k j x hk hx
  exact ⟨u,h6,h7,by rw [hids,Mp.sel_nil] at h8 ⊢;exact h8⟩
 ·obtain ⟨a,rfl,ha,hta⟩:=hth p hp
  obtain ⟨b,rfl,hb,htb⟩:=hth q hq
  rw [hblk a ha] at hgp
  rw [hblk b hb] at hgq
  have:=hm.inj _ _ g hta htb hgp hgq
  simp only [Pl.rw.injEq,and_true] at this
  rw [hinj a b ha hb this]
 ·rw [hstd] at hi
  simp only [stdF] at hi
  exact ⟨by unfold Mp.restrict;exact ze (by omega),fun _=>by unfold Mp.restrict;exact ze (by omega)⟩
 ·obtain ⟨_,_,h3⟩:=hl _ _ h
  rw [hstd];simp only [stdF];omega
 ·obtain ⟨_,h2,_⟩:=hl _ _ h;simp [SO.plain] at h2
 ·obtain ⟨_,h2,_⟩:=hl _ _ h;simp [SO.plain] at h2
end
end Go.Sx
end
