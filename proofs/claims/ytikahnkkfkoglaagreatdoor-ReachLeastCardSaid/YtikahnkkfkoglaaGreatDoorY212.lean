/- Some texts of the library, one behind the other. -/
import Derived.Test.YtikahnkkfkoglaaGreatDoorY28
import Derived.Test.YtikahnkkfkoglaaGreatDoorY211
import Derived.Test.YtikahnkkfkoglaaGreatDoorY27
import Derived.Test.YtikahnkkfkoglaaGreatDoorY26
import Derived.Test.YtikahnkkfkoglaaGreatDoorY25
import Derived.Test.YtikahnkkfkoglaaGreatDoorY22
set_option linter.unusedSimpArgs false
set_option linter.unusedVariables false
section
namespace Go.St
open List renaming getD_eq_getElem?_getD → zd
open Go Go.Sx
theorem qmj {α:Type} (l:List α) (i j:Nat) (x d:α):(l.set i x).getD j d=if j=i∧i<l.length then x else l.getD j d:=by
 rw [zd,zd,List.getElem?_set]
 by_cases h:i=j
 ·subst h
  by_cases h2:i<l.length
  ·rw [zb rfl,zb h2,zb ⟨rfl,h2⟩];rfl
  ·rw [zb rfl,za h2,za (fun h=>h2 h.2),xi (by omega)]
 ·rw [za h,za (fun h2=>h h2.1.symm)]
section
variable {m:Md} {s:Stt}
theorem jrc (hf:fitsB m s=true) (p:Nat) (x:Int) (hx:0≤x∧x<(m.procs.getD p pr0).places):fitsB m { s with at_:=s.at_.set p x }=true:=by
 obtain ⟨h0,hA,hV,hC⟩:=(jn m s).1 hf
 refine (jn m _).2 ⟨⟨by simpa using h0.1,h0.2.1,h0.2.2.1,h0.2.2.2⟩,fun i hi=>?_,hV,hC⟩
 have hi':i<s.at_.length:=by simpa using hi
 have:=hA i hi'
 unfold qjc at *
 simp only
 rw [qmj]
 split
 ·rename_i h;rw [h.1];exact hx
 ·exact this
theorem jdx (hf:fitsB m s=true) (k:Nat) (x:Int) (hx:trim x (m.vars.getD k vr0).width=x):fitsB m { s with vars:=s.vars.set k x }=true:=by
 obtain ⟨h0,hA,hV,hC⟩:=(jn m s).1 hf
 refine (jn m _).2 ⟨⟨h0.1,by simpa using h0.2.1,h0.2.2.1,h0.2.2.2⟩,hA,fun i hi=>?_,hC⟩
 have hi':i<s.vars.length:=by simpa using hi
 have:=hV i hi'
 unfold qkt at *
 simp only
 rw [qmj]
 split
 ·rename_i h;rw [h.1];exact hx
 ·exact this
theorem qsz (hf:fitsB m s=true) (k:Nat) (c:List Int) (hc:(c.length:Int)≤(m.chans.getD k ch0).room) (hx:∀ x∈c,trim x (m.chans.getD k ch0).width=x):fitsB m { s with chans:=s.chans.set k c }=true:=by
 obtain ⟨h0,hA,hV,hC⟩:=(jn m s).1 hf
 refine (jn m _).2 ⟨⟨h0.1,h0.2.1,by simpa using h0.2.2.1,h0.2.2.2⟩,hA,hV,fun i hi=>?_⟩
 have hi':i<s.chans.length:=by simpa using hi
 have:=hC i hi'
 unfold qjd qku at *
 simp only
 rw [qmj]
 split
 ·rename_i h;rw [h.1];exact ⟨hc,fun q hq=>hx _ (qk _ _ _ hq)⟩
 ·exact this
theorem qmk (hf:fitsB m s=true) (h:Int) (hh:-1≤h∧h<m.procs.length):fitsB m { s with holder:=h }=true:=by
 obtain ⟨h0,hA,hV,hC⟩:=(jn m s).1 hf
 exact (jn m _).2 ⟨⟨h0.1,h0.2.1,h0.2.2.1,hh⟩,hA,hV,hC⟩
theorem qph (hf:fitsB m s=true) (k:Nat):∀ x∈s.chans.getD k [],trim x (m.chans.getD k ch0).width=x:=by
 obtain ⟨h0,hA,hV,hC⟩:=(jn m s).1 hf
 intro x hx
 by_cases hk:k<s.chans.length
 ·obtain ⟨q,hq,rfl⟩:=List.mem_iff_getElem.1 hx
  have:=(hC k hk).2 q hq
  unfold qku at this
  rw [zd (l:=s.chans.getD k []),ze hq] at this
  exact this
 ·rw [zd,xi (by omega)] at hx
  simp at hx
theorem qnn (hf:fitsB m s=true) {k:Nat} (hk:k<m.chans.length):((s.chans.getD k []).length:Int)≤(m.chans.getD k ch0).room:=by
 obtain ⟨h0,_,_,hC⟩:=(jn m s).1 hf
 exact (hC k (by rw [h0.2.2.1];exact hk)).1
theorem qco (hM:ModOk m) (hf:fitsB m s=true):SSz s:=by
 have h0:=((jn m s).1 hf).1
 have hz:=hM.sz
 refine ⟨by rw [h0.1];omega,by rw [h0.2.1];omega,by rw [h0.2.2.1];omega,fun c hc=>?_⟩
 obtain ⟨i,hi,rfl⟩:=List.mem_iff_getElem.1 hc
 have hi':i<m.chans.length:=by rw [← h0.2.2.1];exact hi
 have h1:=qnn hf hi'
 have h2:=hM.ok.chan _ (qk m.chans i ch0 hi')
 rw [zd,ze hi] at h1
 simp only [zag] at h1
 omega
def qah (m:Md) (s:Stt) (v:Mv):Bool:=
 if v.kind=0 then decide (v.chn=0∧(s.holder=-1∨s.holder=v.proc)) && (decide (0≤v.proc∧v.proc<m.procs.length∧0≤v.edge∧v.edge<(qo m v.proc.toNat).length) && canB m s v.proc.toNat ((qo m v.proc.toNat).getD v.edge.toNat ed0))
 else if v.kind=1∨v.kind=2 then decide (s.holder=-1∧v.proc=0∧v.edge=0∧0≤v.chn∧v.chn<m.chans.length) && (if v.kind=1 then qkw m s v.chn.toNat else qjg m s v.chn.toNat)
 else false
theorem mem_edgeMoves {p:Nat} {v:Mv}:v∈qhy m s p↔v.kind=0∧v.proc=p∧v.chn=0∧(0≤v.edge∧v.edge<(qo m p).length)∧canB m s p ((qo m p).getD v.edge.toNat ed0)=true:=by
 unfold qhy
 simp only [List.mem_map,List.mem_filter,List.mem_range]
 constructor
 ·rintro ⟨i,⟨h1,h2⟩,rfl⟩
  exact ⟨rfl,rfl,rfl,⟨zao _,by simp only;omega⟩,h2⟩
 ·rintro ⟨h1,h2,h3,⟨h4,h5⟩,h6⟩
  refine ⟨v.edge.toNat,⟨by omega,h6⟩,?_⟩
  cases v with
  | mk k p' e c=>simp only at *;subst h1 h2 h3;rw [Int.toNat_of_nonneg h4]
theorem mem_chanMoves {c:Nat} {v:Mv}:v∈qep m s c↔(v.proc=0∧v.edge=0∧v.chn=c)∧(v.kind=1∧qkw m s c=true∨v.kind=2∧qjg m s c=true):=by
 unfold qep
 rw [xk]
 constructor
 ·rintro (h|h)
  ·split at h
   ·rw [zw] at h;subst h;exact ⟨⟨rfl,rfl,rfl⟩,.inl ⟨rfl,by assumption⟩⟩
   ·simp at h
  ·split at h
   ·rw [zw] at h;subst h;exact ⟨⟨rfl,rfl,rfl⟩,.inr ⟨rfl,by assumption⟩⟩
   ·simp at h
 ·rintro ⟨⟨h1,h2,h3⟩,h⟩
  cases v with
  | mk k p' e c'=>
   simp only at *
   subst h1 h2 h3
   rcases h with ⟨rfl,h⟩|⟨rfl,h⟩
   ·left;rw [zb h];simp
   ·right;rw [zb h];simp
theorem mem_movesF {v:Mv}:v∈qp m s↔qah m s v=true:=by
 unfold qp
 rw [xk,List.mem_flatMap]
 unfold qah
 constructor
 ·rintro (⟨p,hp,h⟩|h)
  ·rw [List.mem_range] at hp
   split at h
   ·simp at h
   ·rename_i hh
    obtain ⟨h1,h2,h3,h4,h5⟩:=mem_edgeMoves.1 h
    rw [zb h1,h2,zr,h5,xn ⟨h3,by omega⟩,xn ⟨zao _,by omega,h4⟩];rfl
  ·split at h
   ·rename_i hh
    rw [List.mem_flatMap] at h
    obtain ⟨c,hc,h⟩:=h
    rw [List.mem_range] at hc
    obtain ⟨⟨h1,h2,h3⟩,h4⟩:=mem_chanMoves.1 h
    rw [za (by omega),zb (by omega),h3,zr,xn ⟨hh,h1,h2,zao _,by omega⟩,zat]
    rcases h4 with ⟨h4,h5⟩|⟨h4,h5⟩
    ·rw [zb h4];exact h5
    ·rw [za (by omega)];exact h5
   ·simp at h
 ·intro h
  split at h
  ·rename_i h1
   rw [zf,zf] at h
   obtain ⟨h2,h3,h4⟩:=h
   have h2:=zm h2
   have h3:=zm h3
   refine .inl ⟨v.proc.toNat,List.mem_range.2 (by omega),?_⟩
   rw [za (by omega)]
   exact mem_edgeMoves.2 ⟨h1,by omega,h2.1,h3.2.2,h4⟩
  ·split at h
   ·rename_i h0 h1
    rw [zf] at h
    obtain ⟨h2,h3⟩:=h
    have h2:=zm h2
    right
    rw [zb h2.1,List.mem_flatMap]
    refine ⟨v.chn.toNat,List.mem_range.2 (by omega),mem_chanMoves.2 ⟨⟨h2.2.1,h2.2.2.1,by omega⟩,?_⟩⟩
    split at h3
    ·exact .inl ⟨by assumption,h3⟩
    ·exact .inr ⟨by omega,h3⟩
   ·cases h
theorem edOk (hM:ModOk m) {p:Nat} (hp:p<m.procs.length) {i:Nat} (hi:i<(qo m p).length):EdOk m.tree.length m.vars.length m.chans.length (m.procs.getD p pr0).places ((qo m p).getD i ed0):=
 (hM.pr _ (qk _ _ _ hp)).ed _ (qk _ _ _ hi)
theorem qpi (hM:ModOk m) (hf:fitsB m s=true) {p:Nat} {e:Ed} (hto:0≤e.to∧e.to<(m.procs.getD p pr0).places) (hcn:e.act=2→qlen s e.chn<room m e.chn):fitsB m (qt m s p e)=true:=by
 have h0:=((jn m s).1 hf).1
 have ha:=qmk (jrc hf p e.to hto) (-1) ⟨xb _,by omega⟩
 unfold qt
 simp only
 split
 ·exact jdx ha _ _ (qwi _ _)
 split
 ·rename_i h2
  have:=hcn h2
  unfold qlen room at this
  refine qsz ha _ _ (by simp only [zg,zz];omega) (fun x hx=>?_)
  rw [xk,zw] at hx
  rcases hx with hx|rfl
  ·exact qph hf _ x hx
  ·exact qwi _ _
 split
 ·have hb:=jdx ha e.var.toNat (trim ((s.chans.getD e.chn.toNat []).getD 0 0) (m.vars.getD e.var.toNat vr0).width) (qwi _ _)
  refine qsz hb _ _ ?_ (fun x hx=>qph hf _ x (List.mem_of_mem_drop hx))
  rw [xj]
  by_cases hk:e.chn.toNat<m.chans.length
  ·have:=qnn hf hk;omega
  ·rw [zd (l:=s.chans),xi (by omega)]
   rw [zd,xi (by omega)]
   simp [ch0]
 ·exact ha
theorem qpj {p:Nat} {e:Ed} (h:canB m s p e=true) (h2:e.act=2):qlen s e.chn<room m e.chn:=by
 unfold canB at h
 rw [zb h2,zf] at h
 exact zm h.2
theorem qta (hM:ModOk m) (hf:fitsB m s=true) {v:Mv} (hv:qah m s v=true):fitsB m (jg m s v)=true:=by
 have h0:=((jn m s).1 hf).1
 unfold qah at hv
 unfold jg
 split at hv
 ·rename_i hk
  rw [zf,zf] at hv
  obtain ⟨h2,h3,h4⟩:=hv
  have h3:=zm h3
  rw [za (by omega),za (by omega)]
  have hp:v.proc.toNat<m.procs.length:=by omega
  have he:=edOk hM hp (i:=v.edge.toNat) (by omega)
  unfold qeq
  refine qmk (qpi hM hf he.to (qpj h4)) _ ?_
  split <;> omega
 ·split at hv
  ·rw [zf] at hv
   obtain ⟨h2,h3⟩:=hv
   have h2:=zm h2
   have hc:v.chn.toNat<m.chans.length:=by omega
   have hl:=qnn hf hc
   split
   ·refine qmk (s:={ s with chans:=s.chans.set v.chn.toNat ((s.chans.getD v.chn.toNat []).drop 1) }) (qsz hf _ _ (by rw [xj];omega) (fun x hx=>qph hf _ x (List.mem_of_mem_drop hx))) (-1) ⟨xb _,by omega⟩
   ·rename_i h1
    rw [za h1] at h3
    rw [zb (by omega)]
    unfold qjg qlen room at h3
    simp only [zf,xd,zr] at h3
    refine qmk (s:={ s with chans:=s.chans.set v.chn.toNat (s.chans.getD v.chn.toNat []++[(s.chans.getD v.chn.toNat []).getD 0 0]) }) (qsz hf _ _ (by simp only [zg,zz];omega) (fun x hx=>?_)) (-1) ⟨xb _,by omega⟩
    rw [xk,zw] at hx
    rcases hx with hx|rfl
    ·exact qph hf _ x hx
    ·exact qph hf _ _ (qk _ _ _ (by omega))
  ·cases hv
def st0z:Stt:=⟨[],[],[],0⟩
end
end Go.St
end
section
namespace Go.St
open Go Go.Sx
def VFit (vs:List Vr):Prop:=∀ v∈vs,trim v.value v.width=v.value
theorem VFit.snoc {vs:List Vr} {v:Vr} (h:VFit vs) (hv:trim v.value v.width=v.value):VFit (vs++[v]):=fun u hu=>by
 rcases List.mem_append.1 hu with hu|hu
 ·exact h u hu
 ·rw [zw] at hu
  rw [hu];exact hv
theorem qpk {α β:Type} {f:β→α→β} {P:β→Prop}:∀ (l:List α) (b:β),(∀ a∈l,∀ b,P b→P (f b a))→P b→P (l.foldl f b)
 | [],_,_,h=>h
 | a::r,b,hf,h=>qpk r (f b a) (fun a' ha'=>hf a' (zq _ ha')) (hf a (zp ..) b h)
section
variable {l:List Nd} (ht:Tree l) (hw:∀ i,i<l.length→qbn l i=0)
include hw
theorem jdy {k:Int} (h0:0≤k) (h1:k<l.length) (h2:(l.getD k.toNat nd0).kind=2):trim ((l.getD k.toNat nd0).nums.getD 1 0) ((l.getD k.toNat nd0).nums.getD 0 0)=(l.getD k.toNat nd0).nums.getD 1 0:=by
 have:=hw k.toNat (by omega)
 unfold qbn at this
 rw [za (by omega),zb h2] at this
 split at this
 ·omega
 ·rename_i hn
  exact Classical.byContradiction fun hc=>hn (.inr (.inl hc))
include ht
theorem jrd (k:Int) (hk:k∈(l.getD 0 nd0).kids) (m:Md) (h:VFit m.vars):VFit (qha l m k).vars:=by
 have hb:=ht.kids 0 (by have:=ht.len;omega) k hk
 unfold qha
 simp only
 split
 ·exact h
 split
 ·exact h.snoc (jdy hw (by omega) hb.2 (by assumption))
 split
 ·exact h
 split <;> exact h
theorem jre {n:Nat} (hn:n<l.length) (k:Int) (hk:k∈(l.getD n nd0).kids.take (varsN l (l.getD n nd0))) (x:Pr × List Vr) (h:VFit x.2):VFit (qee l x k).2:=by
 have hb:=ht.kids n hn k (List.mem_of_mem_take hk)
 obtain ⟨i,hi,rfl⟩:=List.mem_iff_getElem.1 hk
 have hi':i<varsN l (l.getD n nd0):=by rw [xc] at hi;omega
 have h2:=(qwl l (l.getD n nd0)).2 i hi'
 unfold qee
 simp only
 refine h.snoc (jdy hw (by omega) hb.2 ?_)
 unfold kidK at h2
 rw [List.getElem_take]
 rw [List.getElem_take] at hb
 rw [List.getD_eq_getElem?_getD (l:=(l.getD n nd0).kids),ze (by rw [xc] at hi;omega)] at h2
 exact h2
theorem jrf (cs:List Ch) {k:Int} (h0:0≤k) (h1:k<l.length) (seen:Nat) (c:Nat) (x:List Vr × List Pr) (h:VFit x.1):VFit (qdq l cs k seen x c).1:=by
 unfold qdq
 simp only
 exact qpk (P:=fun y:Pr × List Vr=>VFit y.2) _ _ (fun a ha b hb=>jre ht hw (n:=k.toNat) (by omega) a ha b hb) h
theorem jrg (cs:List Ch) (k:Int) (hk:k∈(l.getD 0 nd0).kids) (x:Nat × List Vr × List Pr) (h:VFit x.2.1):VFit (qcv l cs x k).2.1:=by
 have hb:=ht.kids 0 (by have:=ht.len;omega) k hk
 unfold qcv
 simp only
 split
 ·exact qpk (P:=fun y:List Vr × List Pr=>VFit y.1) _ _ (fun c _ b hb'=>jrf ht hw cs (by omega) hb.2 _ c b hb') h
 ·exact h
theorem jrh:VFit (qfh l).vars:=by
 have h1:VFit (qcw l).vars:=qpk (P:=fun m:Md=>VFit m.vars) _ _ (fun k hk m hm=>jrd ht hw k hk m hm) (fun v hv=>by cases hv)
 unfold qfh
 simp only
 exact qpk (P:=fun x:Nat × List Vr × List Pr=>VFit x.2.1) _ _ (fun k hk x hx=>jrg ht hw _ k hk x hx) h1
end
theorem jri {m:Md} (hm:MOk m) (hv:VFit m.vars):fitsB m (qw m)=true:=by
 refine (jn m _).2 ⟨⟨by simp [qw],by simp [qw],by simp [qw],by simp [qw],by simp only [qw];omega⟩,fun i hi=>?_,fun i hi=>?_,fun i hi=>?_⟩
 ·have hi':i<m.procs.length:=by simpa [qw] using hi
  have hp:=hm.place _ (qk m.procs i pr0 hi')
  unfold qjc
  rw [qw,qme _ _ _ _ hi']
  omega
 ·have hi':i<m.vars.length:=by simpa [qw] using hi
  unfold qkt
  rw [qw,qvy _ _ _ _ vr0 hi']
  exact hv _ (qk m.vars i vr0 hi')
 ·have hi':i<m.chans.length:=by simpa [qw] using hi
  have hc:=hm.chan _ (qk m.chans i ch0 hi')
  have hg:(qw m).chans.getD i []=[]:=by rw [qw,qme _ _ _ _ hi']
  refine ⟨?_,fun k hk=>?_⟩
  ·unfold qjd
   rw [hg];exact hc.1
  ·rw [hg] at hk;simp at hk
end Go.St
end
section
namespace Go.Proofs.YtikahnkkfkoglaaGreatDoor
open List renaming getD_eq_getElem?_getD → zd
open Go Go.Sx Go.St
structure Fnd where
 s:Stt
 frm:Int
 mv:Mv
 depth:Int
def Fnd.none:Fnd:=⟨st0z,0,{},0⟩
def Fnd.cells (f:Fnd):List AV:=f.s.cells++([iv f.frm]++(f.mv.cells++[iv f.depth]))
def qgc (L:List Fnd):List (List UInt8):=L.map fun f=>keyT f.s
def qgd (L:List Fnd) (s:Stt):Bool:=qgk (qgc L) (keyT s)
def addF (most:Int) (L:List Fnd) (f:Fnd):List Fnd × Bool:=
 if qgd L f.s=true then (L,true) else if (L.length:Int)=most then (L,false) else (L++[f],true)
def qbk (m:Md) (most:Int) (bad:Stt→Bool) (g:Fnd) (at_:Int):List Mv→List Fnd→List Fnd × (Bool × Bool)
 | [],L=>(L,true,false)
 | v::r,L=>
  if (addF most L ⟨jg m g.s v,at_,v,g.depth+1⟩).2=false then (L,false,false)
  else if L.length<(addF most L ⟨jg m g.s v,at_,v,g.depth+1⟩).1.length∧bad (jg m g.s v)=true then ((addF most L ⟨jg m g.s v,at_,v,g.depth+1⟩).1,false,true)
  else qbk m most bad g at_ r (addF most L ⟨jg m g.s v,at_,v,g.depth+1⟩).1
def jo (m:Md) (most:Int) (bad:Stt→Bool) (at_:Nat) (L:List Fnd):List Fnd × (Bool × Bool):=
 qbk m most bad (L.getD at_ Fnd.none) at_ (qp m (L.getD at_ Fnd.none).s) L
def qae (m:Md):List Fnd:=[⟨qw m,-1,{},0⟩]
def qdr (m:Md) (most:Int):Nat→Nat→List Fnd→List Fnd × (Bool × Bool)
 | 0,_,L=>(L,true,false)
 | n+1,at_,L=>
  if at_<L.length then
   (if (jo m most (badB m) at_ L).2.1=true then qdr m most n (at_+1) (jo m most (badB m) at_ L).1 else jo m most (badB m) at_ L)
  else (L,true,false)
def qds (most:Int):Int:=min (max most 1) 20000
def qji (L:List Fnd):Nat→Int→List Mv
 | 0,_=>[]
 | n+1,at_=>if 0≤(L.getD at_.toNat Fnd.none).frm then (L.getD at_.toNat Fnd.none).mv::qji L n (L.getD at_.toNat Fnd.none).frm else []
def qbv (m:Md) (most:Int):List Fnd × (Bool × Bool):=
 if badB m (qw m)=true then (qae m,false,true) else qdr m (qds most) 20001 0 (qae m)
structure LOk (m:Md) (most:Int) (L:List Fnd):Prop where
 ne:0<L.length
 le:(L.length:Int)≤most
 fit:∀ f∈L,fitsB m f.s=true
 frm:∀ i,i<L.length→-1≤(L.getD i Fnd.none).frm∧(L.getD i Fnd.none).frm<i
 dep:∀ i,i<L.length→0≤(L.getD i Fnd.none).depth∧(L.getD i Fnd.none).depth≤i
theorem qpl (most:Int):1≤qds most∧qds most≤20000:=by unfold qds;omega
theorem qjj {α:Type} {L:List α} {x d:α} {i:Nat} (h:i<L.length+1):(L++[x]).getD i d=if i<L.length then L.getD i d else x:=by
 by_cases hi:i<L.length
 ·rw [zb hi,zd,zd,zy hi]
 ·obtain rfl:i=L.length:=by omega
  rw [za hi,zd,zx (by omega)]
  simp
theorem qml (most:Int) (L:List Fnd) (f:Fnd):(addF most L f).1=L∨((addF most L f).1=L++[f]∧qgd L f.s=false∧(L.length:Int)≠most):=by
 unfold addF
 split
 ·exact .inl rfl
 ·rename_i h1
  split
  ·exact .inl rfl
  ·rename_i h2
   exact .inr ⟨rfl,by simpa using h1,h2⟩
theorem LOk.add {m:Md} {most:Int} {L:List Fnd} (h:LOk m most L) {f:Fnd} (hf:fitsB m f.s=true) (h0:-1≤f.frm∧f.frm<L.length) (hd:0≤f.depth∧f.depth≤L.length):LOk m most (addF most L f).1:=by
 rcases qml most L f with e|⟨e,_,h2⟩
 ·rw [e];exact h
 ·rw [e]
  have hle:=h.le
  refine ⟨by simp,by simp;omega,fun g hg=>?_,fun i hi=>?_,fun i hi=>?_⟩
  ·rcases List.mem_append.1 hg with hg|hg
   ·exact h.fit g hg
   ·rw [List.mem_singleton.1 hg];exact hf
  ·rw [zg,zz] at hi
   rw [qjj hi]
   split
   ·exact h.frm i (by assumption)
   ·exact ⟨h0.1,by omega⟩
  ·rw [zg,zz] at hi
   rw [qjj hi]
   split
   ·exact h.dep i (by assumption)
   ·exact ⟨hd.1,by omega⟩
theorem jdz (most:Int) (L:List Fnd) (f:Fnd):L.length≤(addF most L f).1.length:=by
 rcases qml most L f with e|⟨e,_⟩ <;> rw [e] <;> simp
theorem jea {m:Md} (hM:ModOk m) {most:Int} {bad:Stt→Bool} {g:Fnd} {at_:Nat} (hg:fitsB m g.s=true) (hd:0≤g.depth∧g.depth≤at_):∀ (r:List Mv) (L:List Fnd),(∀ v∈r,qah m g.s v=true)→LOk m most L→at_<L.length→
  LOk m most (qbk m most bad g at_ r L).1∧L.length≤(qbk m most bad g at_ r L).1.length
 | [],L,_,h,_=>⟨h,zl _⟩
 | v::r,L,hr,h,ha=>by
  have hs:=qta hM hg (hr v (zp ..))
  have h1:=h.add (f:=⟨jg m g.s v,at_,v,g.depth+1⟩) hs (by simp only;omega) (by simp only;omega)
  have h2:=jdz most L ⟨jg m g.s v,at_,v,g.depth+1⟩
  rw [qbk]
  split
  ·exact ⟨h,zl _⟩
  split
  ·exact ⟨h1,h2⟩
  ·have h3:=jea hM (bad:=bad) hg hd r _ (fun v hv=>hr v (zq _ hv)) h1 (by omega)
   exact ⟨h3.1,xa h2 h3.2⟩
theorem qpm {m:Md} (hM:ModOk m) {most:Int} {bad:Stt→Bool} {at_:Nat} {L:List Fnd} (h:LOk m most L) (ha:at_<L.length) :
  LOk m most (jo m most bad at_ L).1∧L.length≤(jo m most bad at_ L).1.length:=by
 have hm:L.getD at_ Fnd.none∈L:=by
  rw [zd,ze ha]
  exact zaa ha
 exact jea hM (h.fit _ hm) (h.dep at_ ha) _ L (fun v hv=>mem_movesF.1 hv) h ha
theorem qtb {α:Type} {l:List α} {x:α} (d:α) (h:x∈l):∃ i,i<l.length∧l.getD i d=x:=by
 obtain ⟨i,hi,rfl⟩:=List.getElem_of_mem h
 exact ⟨i,hi,by rw [zd,ze hi];rfl⟩
theorem jrj {m:Md} (hM:ModOk m) {s:Stt} (hf:fitsB m s=true):StIn s:=by
 obtain ⟨h0,ha,hv,hc⟩:=(jn m s).1 hf
 have hsz:=hM.sz
 have h0':=h0
 unfold qor at h0'
 refine ⟨fun n hn=>?_,fun n hn=>?_,fun c hcm n hn=>?_,by omega,by omega⟩
 ·obtain ⟨i,hi,rfl⟩:=qtb 0 hn
  have h1:=ha i hi
  unfold qjc at h1
  have h2:=hM.ok.place _ (qk m.procs i pr0 (by omega))
  omega
 ·obtain ⟨i,hi,rfl⟩:=qtb 0 hn
  have h1:=hv i hi
  unfold qkt at h1
  have:=qon (s.vars.getD i 0) (m.vars.getD i vr0).width
  omega
 ·obtain ⟨i,hi,rfl⟩:=qtb [] hcm
  obtain ⟨k,hk,rfl⟩:=qtb 0 hn
  have h1:=(hc i hi).2 k hk
  unfold qku at h1
  have:=qon ((s.chans.getD i []).getD k 0) (m.chans.getD i ch0).width
  omega
end Go.Proofs.YtikahnkkfkoglaaGreatDoor
end
section
namespace Go.Proofs.YtikahnkkfkoglaaGreatDoor
open List renaming getD_eq_getElem?_getD → zd
open Go Go.Sx Go.RowKit Go.St
set_option maxRecDepth 100000
set_option maxHeartbeats 2000000
theorem qwy (a b:List Int) (ha:a.length≤1000000):Con Tryz.prog 132 [ints a,ints b] (.bool (a == b)):=by
 refine zK {} 300 Tryz.func132 (fun c0 rdb=>?_)
 (repeat' ((conv=>whnf);first|refine Ob.auto ?_|(apply zB <;> intro hb <;> (try simp [-zd] at hb) <;> try (exfalso;omega))))
 ·refine Le.of_eq (congrArg AV.bool ?_)
  exact (beq_eq_false_iff_ne.2 (fun h=>by subst h;simp at hb)).symm
 ·((conv=>whnf);refine qm (fun _=>rfl) 300 1 (fun i:Nat=>[(5,iv i)]) (fun _=>[]) (fun i=>i≤a.length∧∀ j,j<i→a.getD j 0=b.getD j 0) (fun i=>a.length - i) (0) (⟨by omega,fun j hj=>absurd hj (zh j)⟩) qa qa (fun _=>rfl) (by kernel_rfl) ?_;(conv=>whnf))
  intro i hi
  (repeat' ((conv=>whnf);first|refine zO ?_|refine Ob.auto ?_|refine zD 300 ?_|(apply zB <;> intro hb <;> (try simp [-zd] at hb) <;> try (exfalso;omega))))
  ·refine Le.of_eq (congrArg AV.bool ?_)
   exact (beq_eq_false_iff_ne.2 (fun h=>by subst h;simp at hb)).symm
  ·((conv=>whnf);refine ⟨i+1,⟨by omega,qaf hi.2 hb⟩,⟨qa,qa⟩,⟨qa,qa⟩,?_⟩;(first|omega|(dsimp only;omega)|skip))
  ·refine Le.of_eq (congrArg AV.bool ?_)
   exact (beq_iff_eq.2 (jcg 0 (by omega) (fun j hj=>hi.2 j (by omega)))).symm
theorem jrk (a b:Stt) (ha:SSz a):Con Tryz.prog 106 [a.av,b.av] (.bool (qeo a b)):=by
 have h1:=ha.a
 have h2:=ha.v
 have h3:=ha.c
 have h4:=ha.l
 refine zK {} 300 Tryz.func106 (fun c0 rdb=>?_)
 (repeat' ((conv=>whnf);first|refine Ob.auto ?_|refine zC 300 (qwy a.at_ b.at_ h1) ?_|refine zG 300 (fun hg=>qwy a.vars b.vars h2) ?_|(apply zB <;> intro hb <;> (try simp [-zd] at hb) <;> try (exfalso;omega))))
 ·refine Le.of_eq (congrArg AV.bool ?_)
  refine Eq.symm ?_
  unfold qeo
  rw [xf]
  intro h
  simp only [zf,xu] at h
  obtain ⟨⟨⟨e1,e2⟩,e3⟩,e4⟩:=h
  rw [e3] at hb
  simp [e1,e2,e4] at hb
 ·obtain ⟨⟨⟨e1,e2⟩,e3⟩,e4⟩:=hb
  ((conv=>whnf);refine qm (fun _=>rfl) 300 1 (fun i:Nat=>[(5,iv i)]) (fun _=>[]) (fun i=>i≤a.chans.length∧∀ j,j<i→a.chans.getD j []=b.chans.getD j []) (fun i=>a.chans.length - i) (0) (⟨zv _,fun j hj=>absurd hj (zh j)⟩) qa qa (fun _=>rfl) (by kernel_rfl) ?_;(conv=>whnf))
  intro i hi
  have hli:i<a.chans.length→_:=fun h=>h4 _ (qk a.chans i [] h)
  (repeat' ((conv=>whnf);first|refine zA ?_|refine Ob.auto ?_|(refine CallY.con (qwy (a.chans.getD i []) (b.chans.getD i []) (hli (by omega))) (by rfl) leA ?_)|(refine zQ 300 ?_)|(apply zB <;> intro hb <;> (try simp [-zd] at hb) <;> try (exfalso;omega))))
  ·refine Le.of_eq (congrArg AV.bool ?_)
   refine Eq.symm ?_
   unfold qeo
   rw [xf]
   intro h
   simp only [zf,xu] at h
   rw [h.1.2] at hb
   exact hb rfl
  ·((conv=>whnf);refine ⟨i+1,⟨by omega,qaf hi.2 hb⟩,⟨qa,qa⟩,⟨qa,qa⟩,?_⟩;(first|omega|(dsimp only;omega)|skip))
  ·refine Le.of_eq (congrArg AV.bool ?_)
   unfold qeo
   rw [e1,e2,e4,jcg [] (by omega) (fun j hj=>hi.2 j (by omega))]
   simp
theorem qmm (m:Md) (hm:MOk m):Con Tryz.prog 26 [m.av] (qw m).av:=by
 have hsz:=hm.sz
 refine zK {} 300 Tryz.func26 (fun c0 rdb=>?_)
 refine qdh 2 0 3 1 rfl rfl ?_
 ((conv=>whnf);refine qiy (fun _=>rfl) 300 1 [1,2,3] [0,1] (fun i:Nat=>[(4,iv i)]) (fun i=>[(2,.box 40 [.own 3 0 0 i,.nils,.nils,iv (-1)]),(3,.row [] 3 1 0 i (fun _=>[iv 0]))]) (fun i=>i≤m.procs.length) (fun i=>m.procs.length - i) (0) (by omega) qa qa (fun _=>rfl) (by kernel_rfl) ?_;(conv=>whnf))
 intro i hi
 (repeat' ((conv=>whnf);first|refine Ob.auto ?_|(apply zB <;> intro hb <;> (try simp [-zd] at hb) <;> try (exfalso;omega))))
 ·((conv=>whnf);refine ⟨i+1,by omega,⟨qa,qa⟩,⟨qa,qa⟩,?_⟩;(first|omega|(dsimp only;omega)|skip))
 obtain rfl:i=m.procs.length:=by omega
 clear hi hb
 refine qdh 2 1 3 1 rfl rfl ?_
 ((conv=>whnf);refine qiy (fun _=>rfl) 300 2 [1,2,3] [0,1,3] (fun i:Nat=>[(5,iv i)]) (fun i=>[(2,.box 40 [.own 3 0 0 m.procs.length,.own 4 0 0 i,.nils,iv (-1)]),(4,.row [] 3 1 0 i (fun i=>[iv (m.vars.getD i vr0).value]))]) (fun i=>i≤m.vars.length) (fun i=>m.vars.length - i) (0) (by omega) qa qa (fun _=>rfl) (by kernel_rfl) ?_;(conv=>whnf))
 intro i hi
 (repeat' ((conv=>whnf);first|refine Ob.auto ?_|(refine zN 300 ?_)|(apply zB <;> intro hb <;> (try simp [-zd] at hb) <;> try (exfalso;omega))))
 ·((conv=>whnf);refine ⟨i+1,by omega,⟨qa,qa⟩,⟨qa,qa⟩,?_⟩;(first|omega|(dsimp only;omega)|skip))
 obtain rfl:i=m.vars.length:=by omega
 clear hi hb
 refine qdh 2 2 27 1 rfl rfl ?_
 ((conv=>whnf);refine qiy (fun _=>rfl) 300 3 [1,2,3] [0,1,3,4] (fun i:Nat=>[(6,iv i)]) (fun i=>[(2,.box 40 [.own 3 0 0 m.procs.length,.own 4 0 0 m.vars.length,.own 5 0 0 i,iv (-1)]),(5,.row [] 27 1 0 i (fun i=>[.nils]))]) (fun i=>i≤m.chans.length) (fun i=>m.chans.length - i) (0) (by omega) qa qa (fun _=>rfl) (by kernel_rfl) ?_;(conv=>whnf))
 intro i hi
 (repeat' ((conv=>whnf);first|refine Ob.auto ?_|(apply zB <;> intro hb <;> (try simp [-zd] at hb) <;> try (exfalso;omega))))
 ·((conv=>whnf);refine ⟨i+1,by omega,⟨qa,qa⟩,⟨qa,qa⟩,?_⟩;(first|omega|(dsimp only;omega)|skip))
 obtain rfl:i=m.chans.length:=by omega
 (conv=>whnf)
 refine Le.agg ⟨Le.slc (by simp [qw]) (fun j hj=>?_),Le.slc (by simp [qw]) (fun j hj=>?_),Le.slcL (by simp [qw]) (fun j hj=>?_),Le.refl _,trivial⟩
 ·show [iv 0]=[iv ((qw m).at_.getD j 0)]
  rw [qw,qme _ _ _ _ hj]
 ·show [iv (m.vars.getD j vr0).value]=[iv ((qw m).vars.getD j 0)]
  rw [qw,qvy _ _ _ _ vr0 hj]
 ·show LeL [.nils] [ints ((qw m).chans.getD j [])]
  rw [qw,qme _ _ _ _ hj]
  exact ⟨Le.nils _ _,trivial⟩
end Go.Proofs.YtikahnkkfkoglaaGreatDoor
end
