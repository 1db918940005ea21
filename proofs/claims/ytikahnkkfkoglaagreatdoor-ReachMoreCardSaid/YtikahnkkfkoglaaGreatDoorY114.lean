/- Some texts of the library, one behind the other. -/
import Derived.Test.YtikahnkkfkoglaaGreatDoorY18
import Derived.Test.YtikahnkkfkoglaaGreatDoorY1MkS
import Derived.Test.YtikahnkkfkoglaaGreatDoorY12
set_option linter.unusedSimpArgs false
set_option linter.unusedVariables false
section
namespace Go.St
open List renaming getD_eq_getElem?_getD → zd
open Go Go.Sx
theorem qln {α:Type} (l:List α) (i j:Nat) (x d:α):(l.set i x).getD j d=if j=i∧i<l.length then x else l.getD j d:=by
 rw [zd,zd,List.getElem?_set]
 by_cases h:i=j
 ·subst h
  by_cases h2:i<l.length
  ·rw [zb rfl,zb h2,zb ⟨rfl,h2⟩];rfl
  ·rw [zb rfl,za h2,za (fun h=>h2 h.2),xe (by omega)]
 ·rw [za h,za (fun h2=>h h2.1.symm)]
section
variable {m:Md} {s:Stt}
theorem jow (hf:fitsB m s=true) (p:Nat) (x:Int) (hx:0≤x∧x<(m.procs.getD p pr0).places):fitsB m { s with at_:=s.at_.set p x }=true:=by
 obtain ⟨h0,hA,hV,hC⟩:=(qao m s).1 hf
 refine (qao m _).2 ⟨⟨by simpa using h0.1,h0.2.1,h0.2.2.1,h0.2.2.2⟩,fun i hi=>?_,hV,hC⟩
 have hi':i<s.at_.length:=by simpa using hi
 have:=hA i hi'
 unfold qjv at *
 simp only
 rw [qln]
 split
 ·rename_i h;rw [h.1];exact hx
 ·exact this
theorem jcm (hf:fitsB m s=true) (k:Nat) (x:Int) (hx:trim x (m.vars.getD k vr0).width=x):fitsB m { s with vars:=s.vars.set k x }=true:=by
 obtain ⟨h0,hA,hV,hC⟩:=(qao m s).1 hf
 refine (qao m _).2 ⟨⟨h0.1,by simpa using h0.2.1,h0.2.2.1,h0.2.2.2⟩,hA,fun i hi=>?_,hC⟩
 have hi':i<s.vars.length:=by simpa using hi
 have:=hV i hi'
 unfold qjw at *
 simp only
 rw [qln]
 split
 ·rename_i h;rw [h.1];exact hx
 ·exact this
theorem qrt (hf:fitsB m s=true) (k:Nat) (c:List Int) (hc:(c.length:Int)≤(m.chans.getD k ch0).room) (hx:∀ x∈c,trim x (m.chans.getD k ch0).width=x):fitsB m { s with chans:=s.chans.set k c }=true:=by
 obtain ⟨h0,hA,hV,hC⟩:=(qao m s).1 hf
 refine (qao m _).2 ⟨⟨h0.1,h0.2.1,by simpa using h0.2.2.1,h0.2.2.2⟩,hA,hV,fun i hi=>?_⟩
 have hi':i<s.chans.length:=by simpa using hi
 have:=hC i hi'
 unfold qim qjx at *
 simp only
 rw [qln]
 split
 ·rename_i h;rw [h.1];exact ⟨hc,fun q hq=>hx _ (qm _ _ _ hq)⟩
 ·exact this
theorem qlo (hf:fitsB m s=true) (h:Int) (hh:-1≤h∧h<m.procs.length):fitsB m { s with holder:=h }=true:=by
 obtain ⟨h0,hA,hV,hC⟩:=(qao m s).1 hf
 exact (qao m _).2 ⟨⟨h0.1,h0.2.1,h0.2.2.1,hh⟩,hA,hV,hC⟩
theorem qny (hf:fitsB m s=true) (k:Nat):∀ x∈s.chans.getD k [],trim x (m.chans.getD k ch0).width=x:=by
 obtain ⟨h0,hA,hV,hC⟩:=(qao m s).1 hf
 intro x hx
 by_cases hk:k<s.chans.length
 ·obtain ⟨q,hq,rfl⟩:=List.mem_iff_getElem.1 hx
  have:=(hC k hk).2 q hq
  unfold qjx at this
  rw [zd (l:=s.chans.getD k []),ze hq] at this
  exact this
 ·rw [zd,xe (by omega)] at hx
  simp at hx
theorem qmk (hf:fitsB m s=true) {k:Nat} (hk:k<m.chans.length):((s.chans.getD k []).length:Int)≤(m.chans.getD k ch0).room:=by
 obtain ⟨h0,_,_,hC⟩:=(qao m s).1 hf
 exact (hC k (by rw [h0.2.2.1];exact hk)).1
theorem qex (hM:ModOk m) (hf:fitsB m s=true):SSz s:=by
 have h0:=((qao m s).1 hf).1
 have hz:=hM.sz
 refine ⟨by rw [h0.1];omega,by rw [h0.2.1];omega,by rw [h0.2.2.1];omega,fun c hc=>?_⟩
 obtain ⟨i,hi,rfl⟩:=List.mem_iff_getElem.1 hc
 have hi':i<m.chans.length:=by rw [← h0.2.2.1];exact hi
 have h1:=qmk hf hi'
 have h2:=hM.ok.chan _ (qm m.chans i ch0 hi')
 rw [zd,ze hi] at h1
 simp only [zaj] at h1
 omega
def qbp (m:Md) (s:Stt) (v:Mv):Bool:=
 if v.kind=0 then decide (v.chn=0∧(s.holder=-1∨s.holder=v.proc)) && (decide (0≤v.proc∧v.proc<m.procs.length∧0≤v.edge∧v.edge<(qt m v.proc.toNat).length) && canB m s v.proc.toNat ((qt m v.proc.toNat).getD v.edge.toNat ed0))
 else if v.kind=1∨v.kind=2 then decide (s.holder=-1∧v.proc=0∧v.edge=0∧0≤v.chn∧v.chn<m.chans.length) && (if v.kind=1 then qnq m s v.chn.toNat else qll m s v.chn.toNat)
 else false
theorem mem_edgeMoves {p:Nat} {v:Mv}:v∈qin m s p↔v.kind=0∧v.proc=p∧v.chn=0∧(0≤v.edge∧v.edge<(qt m p).length)∧canB m s p ((qt m p).getD v.edge.toNat ed0)=true:=by
 unfold qin
 simp only [List.mem_map,List.mem_filter,List.mem_range]
 constructor
 ·rintro ⟨i,⟨h1,h2⟩,rfl⟩
  exact ⟨rfl,rfl,rfl,⟨zal _,by simp only;omega⟩,h2⟩
 ·rintro ⟨h1,h2,h3,⟨h4,h5⟩,h6⟩
  refine ⟨v.edge.toNat,⟨by omega,h6⟩,?_⟩
  cases v with
  | mk k p' e c=>simp only at *;subst h1 h2 h3;rw [Int.toNat_of_nonneg h4]
theorem mem_chanMoves {c:Nat} {v:Mv}:v∈qfn m s c↔(v.proc=0∧v.edge=0∧v.chn=c)∧(v.kind=1∧qnq m s c=true∨v.kind=2∧qll m s c=true):=by
 unfold qfn
 rw [xn]
 constructor
 ·rintro (h|h)
  ·split at h
   ·rw [zq] at h;subst h;exact ⟨⟨rfl,rfl,rfl⟩,.inl ⟨rfl,by assumption⟩⟩
   ·simp at h
  ·split at h
   ·rw [zq] at h;subst h;exact ⟨⟨rfl,rfl,rfl⟩,.inr ⟨rfl,by assumption⟩⟩
   ·simp at h
 ·rintro ⟨⟨h1,h2,h3⟩,h⟩
  cases v with
  | mk k p' e c'=>
   simp only at *
   subst h1 h2 h3
   rcases h with ⟨rfl,h⟩|⟨rfl,h⟩
   ·left;rw [zb h];simp
   ·right;rw [zb h];simp
theorem mem_movesF {v:Mv}:v∈jb m s↔qbp m s v=true:=by
 unfold jb
 rw [xn,List.mem_flatMap]
 unfold qbp
 constructor
 ·rintro (⟨p,hp,h⟩|h)
  ·rw [List.mem_range] at hp
   split at h
   ·simp at h
   ·rename_i hh
    obtain ⟨h1,h2,h3,h4,h5⟩:=mem_edgeMoves.1 h
    rw [zb h1,h2,zy,h5,xl ⟨h3,by omega⟩,xl ⟨zal _,by omega,h4⟩];rfl
  ·split at h
   ·rename_i hh
    rw [List.mem_flatMap] at h
    obtain ⟨c,hc,h⟩:=h
    rw [List.mem_range] at hc
    obtain ⟨⟨h1,h2,h3⟩,h4⟩:=mem_chanMoves.1 h
    rw [za (by omega),zb (by omega),h3,zy,xl ⟨hh,h1,h2,zal _,by omega⟩,zas]
    rcases h4 with ⟨h4,h5⟩|⟨h4,h5⟩
    ·rw [zb h4];exact h5
    ·rw [za (by omega)];exact h5
   ·simp at h
 ·intro h
  split at h
  ·rename_i h1
   rw [zf,zf] at h
   obtain ⟨h2,h3,h4⟩:=h
   have h2:=zm h2
   have h3:=zm h3
   refine .inl ⟨v.proc.toNat,List.mem_range.2 (by omega),?_⟩
   rw [za (by omega)]
   exact mem_edgeMoves.2 ⟨h1,by omega,h2.1,h3.2.2,h4⟩
  ·split at h
   ·rename_i h0 h1
    rw [zf] at h
    obtain ⟨h2,h3⟩:=h
    have h2:=zm h2
    right
    rw [zb h2.1,List.mem_flatMap]
    refine ⟨v.chn.toNat,List.mem_range.2 (by omega),mem_chanMoves.2 ⟨⟨h2.2.1,h2.2.2.1,by omega⟩,?_⟩⟩
    split at h3
    ·exact .inl ⟨by assumption,h3⟩
    ·exact .inr ⟨by omega,h3⟩
   ·cases h
theorem edOk (hM:ModOk m) {p:Nat} (hp:p<m.procs.length) {i:Nat} (hi:i<(qt m p).length):EdOk m.tree.length m.vars.length m.chans.length (m.procs.getD p pr0).places ((qt m p).getD i ed0):=
 (hM.pr _ (qm _ _ _ hp)).ed _ (qm _ _ _ hi)
theorem qvl (hM:ModOk m) (hf:fitsB m s=true) {p:Nat} {e:Ed} (hto:0≤e.to∧e.to<(m.procs.getD p pr0).places) (hcn:e.act=2→qlen s e.chn<room m e.chn):fitsB m (qcb m s p e)=true:=by
 have h0:=((qao m s).1 hf).1
 have ha:=qlo (jow hf p e.to hto) (-1) ⟨zw _,by omega⟩
 unfold qcb
 simp only
 split
 ·exact jcm ha _ _ (qut _ _)
 split
 ·rename_i h2
  have:=hcn h2
  unfold qlen room at this
  refine qrt ha _ _ (by simp only [zg,xf];omega) (fun x hx=>?_)
  rw [xn,zq] at hx
  rcases hx with hx|rfl
  ·exact qny hf _ x hx
  ·exact qut _ _
 split
 ·have hb:=jcm ha e.var.toNat (trim ((s.chans.getD e.chn.toNat []).getD 0 0) (m.vars.getD e.var.toNat vr0).width) (qut _ _)
  refine qrt hb _ _ ?_ (fun x hx=>qny hf _ x (List.mem_of_mem_drop hx))
  rw [xg]
  by_cases hk:e.chn.toNat<m.chans.length
  ·have:=qmk hf hk;omega
  ·rw [zd (l:=s.chans),xe (by omega)]
   rw [zd,xe (by omega)]
   simp [ch0]
 ·exact ha
theorem qvm {p:Nat} {e:Ed} (h:canB m s p e=true) (h2:e.act=2):qlen s e.chn<room m e.chn:=by
 unfold canB at h
 rw [zb h2,zf] at h
 exact zm h.2
theorem qvn (hM:ModOk m) (hf:fitsB m s=true) {v:Mv} (hv:qbp m s v=true):fitsB m (qac m s v)=true:=by
 have h0:=((qao m s).1 hf).1
 unfold qbp at hv
 unfold qac
 split at hv
 ·rename_i hk
  rw [zf,zf] at hv
  obtain ⟨h2,h3,h4⟩:=hv
  have h3:=zm h3
  rw [za (by omega),za (by omega)]
  have hp:v.proc.toNat<m.procs.length:=by omega
  have he:=edOk hM hp (i:=v.edge.toNat) (by omega)
  unfold qgi
  refine qlo (qvl hM hf he.to (qvm h4)) _ ?_
  split <;> omega
 ·split at hv
  ·rw [zf] at hv
   obtain ⟨h2,h3⟩:=hv
   have h2:=zm h2
   have hc:v.chn.toNat<m.chans.length:=by omega
   have hl:=qmk hf hc
   split
   ·refine qlo (s:={ s with chans:=s.chans.set v.chn.toNat ((s.chans.getD v.chn.toNat []).drop 1) }) (qrt hf _ _ (by rw [xg];omega) (fun x hx=>qny hf _ x (List.mem_of_mem_drop hx))) (-1) ⟨zw _,by omega⟩
   ·rename_i h1
    rw [za h1] at h3
    rw [zb (by omega)]
    unfold qll qlen room at h3
    simp only [zf,xd,zy] at h3
    refine qlo (s:={ s with chans:=s.chans.set v.chn.toNat (s.chans.getD v.chn.toNat []++[(s.chans.getD v.chn.toNat []).getD 0 0]) }) (qrt hf _ _ (by simp only [zg,xf];omega) (fun x hx=>?_)) (-1) ⟨zw _,by omega⟩
    rw [xn,zq] at hx
    rcases hx with hx|rfl
    ·exact qny hf _ x hx
    ·exact qny hf _ _ (qm _ _ _ (by omega))
  ·cases hv
def st0z:Stt:=⟨[],[],[],0⟩
end
end Go.St
end
section
namespace Go.St
open Go Go.Sx
def VFit (vs:List Vr):Prop:=∀ v∈vs,trim v.value v.width=v.value
theorem VFit.snoc {vs:List Vr} {v:Vr} (h:VFit vs) (hv:trim v.value v.width=v.value):VFit (vs++[v]):=fun u hu=>by
 rcases List.mem_append.1 hu with hu|hu
 ·exact h u hu
 ·rw [zq] at hu
  rw [hu];exact hv
theorem qnz {α β:Type} {f:β→α→β} {P:β→Prop}:∀ (l:List α) (b:β),(∀ a∈l,∀ b,P b→P (f b a))→P b→P (l.foldl f b)
 | [],_,_,h=>h
 | a::r,b,hf,h=>qnz r (f b a) (fun a' ha'=>hf a' (zu _ ha')) (hf a (zt ..) b h)
section
variable {l:List Nd} (ht:Tree l) (hw:∀ i,i<l.length→qbi l i=0)
include hw
theorem jcn {k:Int} (h0:0≤k) (h1:k<l.length) (h2:(l.getD k.toNat nd0).kind=2):trim ((l.getD k.toNat nd0).nums.getD 1 0) ((l.getD k.toNat nd0).nums.getD 0 0)=(l.getD k.toNat nd0).nums.getD 1 0:=by
 have:=hw k.toNat (by omega)
 unfold qbi at this
 rw [za (by omega),zb h2] at this
 split at this
 ·omega
 ·rename_i hn
  exact Classical.byContradiction fun hc=>hn (.inr (.inl hc))
include ht
theorem jox (k:Int) (hk:k∈(l.getD 0 nd0).kids) (m:Md) (h:VFit m.vars):VFit (qgj l m k).vars:=by
 have hb:=ht.kids 0 (by have:=ht.len;omega) k hk
 unfold qgj
 simp only
 split
 ·exact h
 split
 ·exact h.snoc (jcn hw (by omega) hb.2 (by assumption))
 split
 ·exact h
 split <;> exact h
theorem joy {n:Nat} (hn:n<l.length) (k:Int) (hk:k∈(l.getD n nd0).kids.take (varsN l (l.getD n nd0))) (x:Pr × List Vr) (h:VFit x.2):VFit (qdv l x k).2:=by
 have hb:=ht.kids n hn k (List.mem_of_mem_take hk)
 obtain ⟨i,hi,rfl⟩:=List.mem_iff_getElem.1 hk
 have hi':i<varsN l (l.getD n nd0):=by rw [xa] at hi;omega
 have h2:=(quy l (l.getD n nd0)).2 i hi'
 unfold qdv
 simp only
 refine h.snoc (jcn hw (by omega) hb.2 ?_)
 unfold kidK at h2
 rw [List.getElem_take]
 rw [List.getElem_take] at hb
 rw [List.getD_eq_getElem?_getD (l:=(l.getD n nd0).kids),ze (by rw [xa] at hi;omega)] at h2
 exact h2
theorem joz (cs:List Ch) {k:Int} (h0:0≤k) (h1:k<l.length) (seen:Nat) (c:Nat) (x:List Vr × List Pr) (h:VFit x.1):VFit (qdk l cs k seen x c).1:=by
 unfold qdk
 simp only
 exact qnz (P:=fun y:Pr × List Vr=>VFit y.2) _ _ (fun a ha b hb=>joy ht hw (n:=k.toNat) (by omega) a ha b hb) h
theorem jpa (cs:List Ch) (k:Int) (hk:k∈(l.getD 0 nd0).kids) (x:Nat × List Vr × List Pr) (h:VFit x.2.1):VFit (qco l cs x k).2.1:=by
 have hb:=ht.kids 0 (by have:=ht.len;omega) k hk
 unfold qco
 simp only
 split
 ·exact qnz (P:=fun y:List Vr × List Pr=>VFit y.1) _ _ (fun c _ b hb'=>joz ht hw cs (by omega) hb.2 _ c b hb') h
 ·exact h
theorem jpb:VFit (qev l).vars:=by
 have h1:VFit (qcp l).vars:=qnz (P:=fun m:Md=>VFit m.vars) _ _ (fun k hk m hm=>jox ht hw k hk m hm) (fun v hv=>by cases hv)
 unfold qev
 simp only
 exact qnz (P:=fun x:Nat × List Vr × List Pr=>VFit x.2.1) _ _ (fun k hk x hx=>jpa ht hw _ k hk x hx) h1
end
theorem jpc {m:Md} (hm:MOk m) (hv:VFit m.vars):fitsB m (jj m)=true:=by
 refine (qao m _).2 ⟨⟨by simp [jj],by simp [jj],by simp [jj],by simp [jj],by simp only [jj];omega⟩,fun i hi=>?_,fun i hi=>?_,fun i hi=>?_⟩
 ·have hi':i<m.procs.length:=by simpa [jj] using hi
  have hp:=hm.place _ (qm m.procs i pr0 hi')
  unfold qjv
  rw [jj,qrh _ _ _ _ hi']
  omega
 ·have hi':i<m.vars.length:=by simpa [jj] using hi
  unfold qjw
  rw [jj,jbc _ _ _ _ vr0 hi']
  exact hv _ (qm m.vars i vr0 hi')
 ·have hi':i<m.chans.length:=by simpa [jj] using hi
  have hc:=hm.chan _ (qm m.chans i ch0 hi')
  have hg:(jj m).chans.getD i []=[]:=by rw [jj,qrh _ _ _ _ hi']
  refine ⟨?_,fun k hk=>?_⟩
  ·unfold qim
   rw [hg];exact hc.1
  ·rw [hg] at hk;simp at hk
end Go.St
end
section
namespace Go.Proofs.YtikahnkkfkoglaaGreatDoor
open List renaming getD_eq_getElem?_getD → zd
open Go Go.Sx Go.St
structure Fnd where
 s:Stt
 frm:Int
 mv:Mv
 depth:Int
def Fnd.none:Fnd:=⟨st0z,0,{},0⟩
def Fnd.cells (f:Fnd):List AV:=f.s.cells++([iv f.frm]++(f.mv.cells++[iv f.depth]))
def qey (L:List Fnd):List (List UInt8):=L.map fun f=>keyT f.s
def qlp (L:List Fnd) (s:Stt):Bool:=qgu (qey L) (keyT s)
def addF (most:Int) (L:List Fnd) (f:Fnd):List Fnd × Bool:=
 if qlp L f.s=true then (L,true) else if (L.length:Int)=most then (L,false) else (L++[f],true)
def jz (m:Md) (most:Int) (bad:Stt→Bool) (g:Fnd) (at_:Int):List Mv→List Fnd→List Fnd × (Bool × Bool)
 | [],L=>(L,true,false)
 | v::r,L=>
  if (addF most L ⟨qac m g.s v,at_,v,g.depth+1⟩).2=false then (L,false,false)
  else if L.length<(addF most L ⟨qac m g.s v,at_,v,g.depth+1⟩).1.length∧bad (qac m g.s v)=true then ((addF most L ⟨qac m g.s v,at_,v,g.depth+1⟩).1,false,true)
  else jz m most bad g at_ r (addF most L ⟨qac m g.s v,at_,v,g.depth+1⟩).1
def qag (m:Md) (most:Int) (bad:Stt→Bool) (at_:Nat) (L:List Fnd):List Fnd × (Bool × Bool):=
 jz m most bad (L.getD at_ Fnd.none) at_ (jb m (L.getD at_ Fnd.none).s) L
def qcc (m:Md):List Fnd:=[⟨jj m,-1,{},0⟩]
def qby (m:Md) (most:Int):Nat→Nat→List Fnd→List Fnd × (Bool × Bool)
 | 0,_,L=>(L,true,false)
 | n+1,at_,L=>
  if at_<L.length then
   (if (qag m most (badB m) at_ L).2.1=true then qby m most n (at_+1) (qag m most (badB m) at_ L).1 else qag m most (badB m) at_ L)
  else (L,true,false)
def qch (most:Int):Int:=min (max most 1) 20000
def qip (L:List Fnd):Nat→Int→List Mv
 | 0,_=>[]
 | n+1,at_=>if 0≤(L.getD at_.toNat Fnd.none).frm then (L.getD at_.toNat Fnd.none).mv::qip L n (L.getD at_.toNat Fnd.none).frm else []
def qbg (m:Md) (most:Int):List Fnd × (Bool × Bool):=
 if badB m (jj m)=true then (qcc m,false,true) else qby m (qch most) 20001 0 (qcc m)
def qdw (m:Md) (steps most:Int):Nat→Nat→List Fnd→List Fnd × Bool
 | 0,_,L=>(L,true)
 | n+1,at_,L=>
  if at_<L.length∧(L.getD at_ Fnd.none).depth<steps then
   (if (qag m most (fun _=>false) at_ L).2.1=true then qdw m steps most n (at_+1) (qag m most (fun _=>false) at_ L).1 else (L,false))
  else (L,true)
def qka (m:Md) (steps most:Int):List Fnd × Bool:=qdw m steps (qch most) 20001 0 (qcc m)
structure LOk (m:Md) (most:Int) (L:List Fnd):Prop where
 ne:0<L.length
 le:(L.length:Int)≤most
 fit:∀ f∈L,fitsB m f.s=true
 frm:∀ i,i<L.length→-1≤(L.getD i Fnd.none).frm∧(L.getD i Fnd.none).frm<i
 dep:∀ i,i<L.length→0≤(L.getD i Fnd.none).depth∧(L.getD i Fnd.none).depth≤i
theorem qru (most:Int):1≤qch most∧qch most≤20000:=by unfold qch;omega
theorem jco {α:Type} {L:List α} {x d:α} {i:Nat} (h:i<L.length+1):(L++[x]).getD i d=if i<L.length then L.getD i d else x:=by
 by_cases hi:i<L.length
 ·rw [zb hi,zd,zd,zr hi]
 ·obtain rfl:i=L.length:=by omega
  rw [za hi,zd,zp (by omega)]
  simp
theorem qrv (most:Int) (L:List Fnd) (f:Fnd):(addF most L f).1=L∨((addF most L f).1=L++[f]∧qlp L f.s=false∧(L.length:Int)≠most):=by
 unfold addF
 split
 ·exact .inl rfl
 ·rename_i h1
  split
  ·exact .inl rfl
  ·rename_i h2
   exact .inr ⟨rfl,by simpa using h1,h2⟩
theorem LOk.add {m:Md} {most:Int} {L:List Fnd} (h:LOk m most L) {f:Fnd} (hf:fitsB m f.s=true) (h0:-1≤f.frm∧f.frm<L.length) (hd:0≤f.depth∧f.depth≤L.length):LOk m most (addF most L f).1:=by
 rcases qrv most L f with e|⟨e,_,h2⟩
 ·rw [e];exact h
 ·rw [e]
  have hle:=h.le
  refine ⟨by simp,by simp;omega,fun g hg=>?_,fun i hi=>?_,fun i hi=>?_⟩
  ·rcases List.mem_append.1 hg with hg|hg
   ·exact h.fit g hg
   ·rw [List.mem_singleton.1 hg];exact hf
  ·rw [zg,xf] at hi
   rw [jco hi]
   split
   ·exact h.frm i (by assumption)
   ·exact ⟨h0.1,by omega⟩
  ·rw [zg,xf] at hi
   rw [jco hi]
   split
   ·exact h.dep i (by assumption)
   ·exact ⟨hd.1,by omega⟩
theorem qoa (most:Int) (L:List Fnd) (f:Fnd):L.length≤(addF most L f).1.length:=by
 rcases qrv most L f with e|⟨e,_⟩ <;> rw [e] <;> simp
theorem jcp {m:Md} (hM:ModOk m) {most:Int} {bad:Stt→Bool} {g:Fnd} {at_:Nat} (hg:fitsB m g.s=true) (hd:0≤g.depth∧g.depth≤at_):∀ (r:List Mv) (L:List Fnd),(∀ v∈r,qbp m g.s v=true)→LOk m most L→at_<L.length→
  LOk m most (jz m most bad g at_ r L).1∧L.length≤(jz m most bad g at_ r L).1.length
 | [],L,_,h,_=>⟨h,zi _⟩
 | v::r,L,hr,h,ha=>by
  have hs:=qvn hM hg (hr v (zt ..))
  have h1:=h.add (f:=⟨qac m g.s v,at_,v,g.depth+1⟩) hs (by simp only;omega) (by simp only;omega)
  have h2:=qoa most L ⟨qac m g.s v,at_,v,g.depth+1⟩
  rw [jz]
  split
  ·exact ⟨h,zi _⟩
  split
  ·exact ⟨h1,h2⟩
  ·have h3:=jcp hM (bad:=bad) hg hd r _ (fun v hv=>hr v (zu _ hv)) h1 (by omega)
   exact ⟨h3.1,zv h2 h3.2⟩
theorem qvo {m:Md} (hM:ModOk m) {most:Int} {bad:Stt→Bool} {at_:Nat} {L:List Fnd} (h:LOk m most L) (ha:at_<L.length) :
  LOk m most (qag m most bad at_ L).1∧L.length≤(qag m most bad at_ L).1.length:=by
 have hm:L.getD at_ Fnd.none∈L:=by
  rw [zd,ze ha]
  exact xt ha
 exact jcp hM (h.fit _ hm) (h.dep at_ ha) _ L (fun v hv=>mem_movesF.1 hv) h ha
theorem qrw {α:Type} {l:List α} {x:α} (d:α) (h:x∈l):∃ i,i<l.length∧l.getD i d=x:=by
 obtain ⟨i,hi,rfl⟩:=List.getElem_of_mem h
 exact ⟨i,hi,by rw [zd,ze hi];rfl⟩
theorem jpd {m:Md} (hM:ModOk m) {s:Stt} (hf:fitsB m s=true):StIn s:=by
 obtain ⟨h0,ha,hv,hc⟩:=(qao m s).1 hf
 have hsz:=hM.sz
 have h0':=h0
 unfold qnn at h0'
 refine ⟨fun n hn=>?_,fun n hn=>?_,fun c hcm n hn=>?_,by omega,by omega⟩
 ·obtain ⟨i,hi,rfl⟩:=qrw 0 hn
  have h1:=ha i hi
  unfold qjv at h1
  have h2:=hM.ok.place _ (qm m.procs i pr0 (by omega))
  omega
 ·obtain ⟨i,hi,rfl⟩:=qrw 0 hn
  have h1:=hv i hi
  unfold qjw at h1
  have:=qnk (s.vars.getD i 0) (m.vars.getD i vr0).width
  omega
 ·obtain ⟨i,hi,rfl⟩:=qrw [] hcm
  obtain ⟨k,hk,rfl⟩:=qrw 0 hn
  have h1:=(hc i hi).2 k hk
  unfold qjx at h1
  have:=qnk ((s.chans.getD i []).getD k 0) (m.chans.getD i ch0).width
  omega
end Go.Proofs.YtikahnkkfkoglaaGreatDoor
end
