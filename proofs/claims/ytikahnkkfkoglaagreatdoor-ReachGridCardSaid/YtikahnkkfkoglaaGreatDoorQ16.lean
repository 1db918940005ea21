/- Some texts of the library, one behind the other. -/
import Derived.Test.YtikahnkkfkoglaaGreatDoorQ11
import Derived.Test.YtikahnkkfkoglaaGreatDoorQMkS
import Derived.Test.YtikahnkkfkoglaaGreatDoorQ2
set_option linter.unusedSimpArgs false
set_option linter.unusedVariables false
section
namespace Go.St
open List renaming getD_eq_getElem?_getD → zd
open Go Go.Sx
theorem qmf {α:Type} (l:List α) (i j:Nat) (x d:α):(l.set i x).getD j d=if j=i∧i<l.length then x else l.getD j d:=by
 rw [zd,zd,List.getElem?_set]
 by_cases h:i=j
 ·subst h
  by_cases h2:i<l.length
  ·rw [zb rfl,zb h2,zb ⟨rfl,h2⟩];rfl
  ·rw [zb rfl,za h2,za (fun h=>h2 h.2),xg (by omega)]
 ·rw [za h,za (fun h2=>h h2.1.symm)]
section
variable {m:Md} {s:Stt}
theorem jro (hf:fitsB m s=true) (p:Nat) (x:Int) (hx:0≤x∧x<(m.procs.getD p pr0).places):fitsB m { s with at_:=s.at_.set p x }=true:=by
 obtain ⟨h0,hA,hV,hC⟩:=(qap m s).1 hf
 refine (qap m _).2 ⟨⟨by simpa using h0.1,h0.2.1,h0.2.2.1,h0.2.2.2⟩,fun i hi=>?_,hV,hC⟩
 have hi':i<s.at_.length:=by simpa using hi
 have:=hA i hi'
 unfold qlt at *
 simp only
 rw [qmf]
 split
 ·rename_i h;rw [h.1];exact hx
 ·exact this
theorem jdm (hf:fitsB m s=true) (k:Nat) (x:Int) (hx:trim x (m.vars.getD k vr0).width=x):fitsB m { s with vars:=s.vars.set k x }=true:=by
 obtain ⟨h0,hA,hV,hC⟩:=(qap m s).1 hf
 refine (qap m _).2 ⟨⟨h0.1,by simpa using h0.2.1,h0.2.2.1,h0.2.2.2⟩,hA,fun i hi=>?_,hC⟩
 have hi':i<s.vars.length:=by simpa using hi
 have:=hV i hi'
 unfold qlu at *
 simp only
 rw [qmf]
 split
 ·rename_i h;rw [h.1];exact hx
 ·exact this
theorem qrw (hf:fitsB m s=true) (k:Nat) (c:List Int) (hc:(c.length:Int)≤(m.chans.getD k ch0).room) (hx:∀ x∈c,trim x (m.chans.getD k ch0).width=x):fitsB m { s with chans:=s.chans.set k c }=true:=by
 obtain ⟨h0,hA,hV,hC⟩:=(qap m s).1 hf
 refine (qap m _).2 ⟨⟨h0.1,h0.2.1,by simpa using h0.2.2.1,h0.2.2.2⟩,hA,hV,fun i hi=>?_⟩
 have hi':i<s.chans.length:=by simpa using hi
 have:=hC i hi'
 unfold qkh qki at *
 simp only
 rw [qmf]
 split
 ·rename_i h;rw [h.1];exact ⟨hc,fun q hq=>hx _ (qr _ _ _ hq)⟩
 ·exact this
theorem qmg (hf:fitsB m s=true) (h:Int) (hh:-1≤h∧h<m.procs.length):fitsB m { s with holder:=h }=true:=by
 obtain ⟨h0,hA,hV,hC⟩:=(qap m s).1 hf
 exact (qap m _).2 ⟨⟨h0.1,h0.2.1,h0.2.2.1,hh⟩,hA,hV,hC⟩
theorem qos (hf:fitsB m s=true) (k:Nat):∀ x∈s.chans.getD k [],trim x (m.chans.getD k ch0).width=x:=by
 obtain ⟨h0,hA,hV,hC⟩:=(qap m s).1 hf
 intro x hx
 by_cases hk:k<s.chans.length
 ·obtain ⟨q,hq,rfl⟩:=List.mem_iff_getElem.1 hx
  have:=(hC k hk).2 q hq
  unfold qki at this
  rw [zd (l:=s.chans.getD k []),ze hq] at this
  exact this
 ·rw [zd,xg (by omega)] at hx
  simp at hx
theorem qmw (hf:fitsB m s=true) {k:Nat} (hk:k<m.chans.length):((s.chans.getD k []).length:Int)≤(m.chans.getD k ch0).room:=by
 obtain ⟨h0,_,_,hC⟩:=(qap m s).1 hf
 exact (hC k (by rw [h0.2.2.1];exact hk)).1
theorem qff (hM:ModOk m) (hf:fitsB m s=true):SSz s:=by
 have h0:=((qap m s).1 hf).1
 have hz:=hM.sz
 refine ⟨by rw [h0.1];omega,by rw [h0.2.1];omega,by rw [h0.2.2.1];omega,fun c hc=>?_⟩
 obtain ⟨i,hi,rfl⟩:=List.mem_iff_getElem.1 hc
 have hi':i<m.chans.length:=by rw [← h0.2.2.1];exact hi
 have h1:=qmw hf hi'
 have h2:=hM.ok.chan _ (qr m.chans i ch0 hi')
 rw [zd,ze hi] at h1
 simp only [zaf] at h1
 omega
def qbr (m:Md) (s:Stt) (v:Mv):Bool:=
 if v.kind=0 then decide (v.chn=0∧(s.holder=-1∨s.holder=v.proc)) && (decide (0≤v.proc∧v.proc<m.procs.length∧0≤v.edge∧v.edge<(qu m v.proc.toNat).length) && canB m s v.proc.toNat ((qu m v.proc.toNat).getD v.edge.toNat ed0))
 else if v.kind=1∨v.kind=2 then decide (s.holder=-1∧v.proc=0∧v.edge=0∧0≤v.chn∧v.chn<m.chans.length) && (if v.kind=1 then qoo m s v.chn.toNat else qmd m s v.chn.toNat)
 else false
theorem mem_edgeMoves {p:Nat} {v:Mv}:v∈qis m s p↔v.kind=0∧v.proc=p∧v.chn=0∧(0≤v.edge∧v.edge<(qu m p).length)∧canB m s p ((qu m p).getD v.edge.toNat ed0)=true:=by
 unfold qis
 simp only [List.mem_map,List.mem_filter,List.mem_range]
 constructor
 ·rintro ⟨i,⟨h1,h2⟩,rfl⟩
  exact ⟨rfl,rfl,rfl,⟨zai _,by simp only;omega⟩,h2⟩
 ·rintro ⟨h1,h2,h3,⟨h4,h5⟩,h6⟩
  refine ⟨v.edge.toNat,⟨by omega,h6⟩,?_⟩
  cases v with
  | mk k p' e c=>simp only at *;subst h1 h2 h3;rw [Int.toNat_of_nonneg h4]
theorem mem_chanMoves {c:Nat} {v:Mv}:v∈qfx m s c↔(v.proc=0∧v.edge=0∧v.chn=c)∧(v.kind=1∧qoo m s c=true∨v.kind=2∧qmd m s c=true):=by
 unfold qfx
 rw [xk]
 constructor
 ·rintro (h|h)
  ·split at h
   ·rw [zq] at h;subst h;exact ⟨⟨rfl,rfl,rfl⟩,.inl ⟨rfl,by assumption⟩⟩
   ·simp at h
  ·split at h
   ·rw [zq] at h;subst h;exact ⟨⟨rfl,rfl,rfl⟩,.inr ⟨rfl,by assumption⟩⟩
   ·simp at h
 ·rintro ⟨⟨h1,h2,h3⟩,h⟩
  cases v with
  | mk k p' e c'=>
   simp only at *
   subst h1 h2 h3
   rcases h with ⟨rfl,h⟩|⟨rfl,h⟩
   ·left;rw [zb h];simp
   ·right;rw [zb h];simp
theorem mem_movesF {v:Mv}:v∈ji m s↔qbr m s v=true:=by
 unfold ji
 rw [xk,List.mem_flatMap]
 unfold qbr
 constructor
 ·rintro (⟨p,hp,h⟩|h)
  ·rw [List.mem_range] at hp
   split at h
   ·simp at h
   ·rename_i hh
    obtain ⟨h1,h2,h3,h4,h5⟩:=mem_edgeMoves.1 h
    rw [zb h1,h2,zz,h5,xn ⟨h3,by omega⟩,xn ⟨zai _,by omega,h4⟩];rfl
  ·split at h
   ·rename_i hh
    rw [List.mem_flatMap] at h
    obtain ⟨c,hc,h⟩:=h
    rw [List.mem_range] at hc
    obtain ⟨⟨h1,h2,h3⟩,h4⟩:=mem_chanMoves.1 h
    rw [za (by omega),zb (by omega),h3,zz,xn ⟨hh,h1,h2,zai _,by omega⟩,zao]
    rcases h4 with ⟨h4,h5⟩|⟨h4,h5⟩
    ·rw [zb h4];exact h5
    ·rw [za (by omega)];exact h5
   ·simp at h
 ·intro h
  split at h
  ·rename_i h1
   rw [zf,zf] at h
   obtain ⟨h2,h3,h4⟩:=h
   have h2:=zn h2
   have h3:=zn h3
   refine .inl ⟨v.proc.toNat,List.mem_range.2 (by omega),?_⟩
   rw [za (by omega)]
   exact mem_edgeMoves.2 ⟨h1,by omega,h2.1,h3.2.2,h4⟩
  ·split at h
   ·rename_i h0 h1
    rw [zf] at h
    obtain ⟨h2,h3⟩:=h
    have h2:=zn h2
    right
    rw [zb h2.1,List.mem_flatMap]
    refine ⟨v.chn.toNat,List.mem_range.2 (by omega),mem_chanMoves.2 ⟨⟨h2.2.1,h2.2.2.1,by omega⟩,?_⟩⟩
    split at h3
    ·exact .inl ⟨by assumption,h3⟩
    ·exact .inr ⟨by omega,h3⟩
   ·cases h
theorem edOk (hM:ModOk m) {p:Nat} (hp:p<m.procs.length) {i:Nat} (hi:i<(qu m p).length):EdOk m.tree.length m.vars.length m.chans.length (m.procs.getD p pr0).places ((qu m p).getD i ed0):=
 (hM.pr _ (qr _ _ _ hp)).ed _ (qr _ _ _ hi)
theorem qvn (hM:ModOk m) (hf:fitsB m s=true) {p:Nat} {e:Ed} (hto:0≤e.to∧e.to<(m.procs.getD p pr0).places) (hcn:e.act=2→qlen s e.chn<room m e.chn):fitsB m (qce m s p e)=true:=by
 have h0:=((qap m s).1 hf).1
 have ha:=qmg (jro hf p e.to hto) (-1) ⟨xa _,by omega⟩
 unfold qce
 simp only
 split
 ·exact jdm ha _ _ (quw _ _)
 split
 ·rename_i h2
  have:=hcn h2
  unfold qlen room at this
  refine qrw ha _ _ (by simp only [zg,xl];omega) (fun x hx=>?_)
  rw [xk,zq] at hx
  rcases hx with hx|rfl
  ·exact qos hf _ x hx
  ·exact quw _ _
 split
 ·have hb:=jdm ha e.var.toNat (trim ((s.chans.getD e.chn.toNat []).getD 0 0) (m.vars.getD e.var.toNat vr0).width) (quw _ _)
  refine qrw hb _ _ ?_ (fun x hx=>qos hf _ x (List.mem_of_mem_drop hx))
  rw [xd]
  by_cases hk:e.chn.toNat<m.chans.length
  ·have:=qmw hf hk;omega
  ·rw [zd (l:=s.chans),xg (by omega)]
   rw [zd,xg (by omega)]
   simp [ch0]
 ·exact ha
theorem qvo {p:Nat} {e:Ed} (h:canB m s p e=true) (h2:e.act=2):qlen s e.chn<room m e.chn:=by
 unfold canB at h
 rw [zb h2,zf] at h
 exact zn h.2
theorem qvp (hM:ModOk m) (hf:fitsB m s=true) {v:Mv} (hv:qbr m s v=true):fitsB m (qbh m s v)=true:=by
 have h0:=((qap m s).1 hf).1
 unfold qbr at hv
 unfold qbh
 split at hv
 ·rename_i hk
  rw [zf,zf] at hv
  obtain ⟨h2,h3,h4⟩:=hv
  have h3:=zn h3
  rw [za (by omega),za (by omega)]
  have hp:v.proc.toNat<m.procs.length:=by omega
  have he:=edOk hM hp (i:=v.edge.toNat) (by omega)
  unfold qgq
  refine qmg (qvn hM hf he.to (qvo h4)) _ ?_
  split <;> omega
 ·split at hv
  ·rw [zf] at hv
   obtain ⟨h2,h3⟩:=hv
   have h2:=zn h2
   have hc:v.chn.toNat<m.chans.length:=by omega
   have hl:=qmw hf hc
   split
   ·refine qmg (s:={ s with chans:=s.chans.set v.chn.toNat ((s.chans.getD v.chn.toNat []).drop 1) }) (qrw hf _ _ (by rw [xd];omega) (fun x hx=>qos hf _ x (List.mem_of_mem_drop hx))) (-1) ⟨xa _,by omega⟩
   ·rename_i h1
    rw [za h1] at h3
    rw [zb (by omega)]
    unfold qmd qlen room at h3
    simp only [zf,xr,zz] at h3
    refine qmg (s:={ s with chans:=s.chans.set v.chn.toNat (s.chans.getD v.chn.toNat []++[(s.chans.getD v.chn.toNat []).getD 0 0]) }) (qrw hf _ _ (by simp only [zg,xl];omega) (fun x hx=>?_)) (-1) ⟨xa _,by omega⟩
    rw [xk,zq] at hx
    rcases hx with hx|rfl
    ·exact qos hf _ x hx
    ·exact qos hf _ _ (qr _ _ _ (by omega))
  ·cases hv
def st0z:Stt:=⟨[],[],[],0⟩
end
end Go.St
end
section
namespace Go.St
open Go Go.Sx
section
variable {l:List Nd} (ht:Tree l) (hw:∀ i,i<l.length→qbn l i=0)
include hw
include ht
end
end Go.St
end
section
namespace Go.Proofs.YtikahnkkfkoglaaGreatDoor
open List renaming getD_eq_getElem?_getD → zd
open Go Go.Sx Go.St
structure Fnd where
 s:Stt
 frm:Int
 mv:Mv
 depth:Int
def Fnd.none:Fnd:=⟨st0z,0,{},0⟩
def Fnd.cells (f:Fnd):List AV:=f.s.cells++([iv f.frm]++(f.mv.cells++[iv f.depth]))
def qgs (L:List Fnd):List (List UInt8):=L.map fun f=>keyT f.s
def qot (L:List Fnd) (s:Stt):Bool:=qgy (qgs L) (keyT s)
def addF (most:Int) (L:List Fnd) (f:Fnd):List Fnd × Bool:=
 if qot L f.s=true then (L,true) else if (L.length:Int)=most then (L,false) else (L++[f],true)
def qdf (m:Md) (most:Int) (bad:Stt→Bool) (g:Fnd) (at_:Int):List Mv→List Fnd→List Fnd × (Bool × Bool)
 | [],L=>(L,true,false)
 | v::r,L=>
  if (addF most L ⟨qbh m g.s v,at_,v,g.depth+1⟩).2=false then (L,false,false)
  else if L.length<(addF most L ⟨qbh m g.s v,at_,v,g.depth+1⟩).1.length∧bad (qbh m g.s v)=true then ((addF most L ⟨qbh m g.s v,at_,v,g.depth+1⟩).1,false,true)
  else qdf m most bad g at_ r (addF most L ⟨qbh m g.s v,at_,v,g.depth+1⟩).1
def qbi (m:Md) (most:Int) (bad:Stt→Bool) (at_:Nat) (L:List Fnd):List Fnd × (Bool × Bool):=
 qdf m most bad (L.getD at_ Fnd.none) at_ (ji m (L.getD at_ Fnd.none).s) L
def qel (m:Md):List Fnd:=[⟨ju m,-1,{},0⟩]
def qmh (m:Md) (most:Int):Nat→Nat→List Fnd→List Fnd × (Bool × Bool)
 | 0,_,L=>(L,true,false)
 | n+1,at_,L=>
  if at_<L.length then
   (if (qbi m most (badB m) at_ L).2.1=true then qmh m most n (at_+1) (qbi m most (badB m) at_ L).1 else qbi m most (badB m) at_ L)
  else (L,true,false)
def qfg (most:Int):Int:=min (max most 1) 20000
def jd (m:Md) (most:Int):List Fnd × (Bool × Bool):=
 if badB m (ju m)=true then (qel m,false,true) else qmh m (qfg most) 20001 0 (qel m)
def qou (m:Md) (steps most:Int):Nat→Nat→List Fnd→List Fnd × Bool
 | 0,_,L=>(L,true)
 | n+1,at_,L=>
  if at_<L.length∧(L.getD at_ Fnd.none).depth<steps then
   (if (qbi m most (fun _=>false) at_ L).2.1=true then qou m steps most n (at_+1) (qbi m most (fun _=>false) at_ L).1 else (L,false))
  else (L,true)
def qvq (m:Md) (steps most:Int):List Fnd × Bool:=qou m steps (qfg most) 20001 0 (qel m)
structure LOk (m:Md) (most:Int) (L:List Fnd):Prop where
 ne:0<L.length
 le:(L.length:Int)≤most
 fit:∀ f∈L,fitsB m f.s=true
 frm:∀ i,i<L.length→-1≤(L.getD i Fnd.none).frm∧(L.getD i Fnd.none).frm<i
 dep:∀ i,i<L.length→0≤(L.getD i Fnd.none).depth∧(L.getD i Fnd.none).depth≤i
theorem qvr (most:Int):1≤qfg most∧qfg most≤20000:=by unfold qfg;omega
theorem jdn {α:Type} {L:List α} {x d:α} {i:Nat} (h:i<L.length+1):(L++[x]).getD i d=if i<L.length then L.getD i d else x:=by
 by_cases hi:i<L.length
 ·rw [zb hi,zd,zd,zr hi]
 ·obtain rfl:i=L.length:=by omega
  rw [za hi,zd,zp (by omega)]
  simp
theorem qrx (most:Int) (L:List Fnd) (f:Fnd):(addF most L f).1=L∨((addF most L f).1=L++[f]∧qot L f.s=false∧(L.length:Int)≠most):=by
 unfold addF
 split
 ·exact .inl rfl
 ·rename_i h1
  split
  ·exact .inl rfl
  ·rename_i h2
   exact .inr ⟨rfl,by simpa using h1,h2⟩
theorem LOk.add {m:Md} {most:Int} {L:List Fnd} (h:LOk m most L) {f:Fnd} (hf:fitsB m f.s=true) (h0:-1≤f.frm∧f.frm<L.length) (hd:0≤f.depth∧f.depth≤L.length):LOk m most (addF most L f).1:=by
 rcases qrx most L f with e|⟨e,_,h2⟩
 ·rw [e];exact h
 ·rw [e]
  have hle:=h.le
  refine ⟨by simp,by simp;omega,fun g hg=>?_,fun i hi=>?_,fun i hi=>?_⟩
  ·rcases List.mem_append.1 hg with hg|hg
   ·exact h.fit g hg
   ·rw [List.mem_singleton.1 hg];exact hf
  ·rw [zg,xl] at hi
   rw [jdn hi]
   split
   ·exact h.frm i (by assumption)
   ·exact ⟨h0.1,by omega⟩
  ·rw [zg,xl] at hi
   rw [jdn hi]
   split
   ·exact h.dep i (by assumption)
   ·exact ⟨hd.1,by omega⟩
theorem qvs (most:Int) (L:List Fnd) (f:Fnd):L.length≤(addF most L f).1.length:=by
 rcases qrx most L f with e|⟨e,_⟩ <;> rw [e] <;> simp
theorem jdo {m:Md} (hM:ModOk m) {most:Int} {bad:Stt→Bool} {g:Fnd} {at_:Nat} (hg:fitsB m g.s=true) (hd:0≤g.depth∧g.depth≤at_):∀ (r:List Mv) (L:List Fnd),(∀ v∈r,qbr m g.s v=true)→LOk m most L→at_<L.length→
  LOk m most (qdf m most bad g at_ r L).1∧L.length≤(qdf m most bad g at_ r L).1.length
 | [],L,_,h,_=>⟨h,zl _⟩
 | v::r,L,hr,h,ha=>by
  have hs:=qvp hM hg (hr v (zt ..))
  have h1:=h.add (f:=⟨qbh m g.s v,at_,v,g.depth+1⟩) hs (by simp only;omega) (by simp only;omega)
  have h2:=qvs most L ⟨qbh m g.s v,at_,v,g.depth+1⟩
  rw [qdf]
  split
  ·exact ⟨h,zl _⟩
  split
  ·exact ⟨h1,h2⟩
  ·have h3:=jdo hM (bad:=bad) hg hd r _ (fun v hv=>hr v (zu _ hv)) h1 (by omega)
   exact ⟨h3.1,zx h2 h3.2⟩
theorem jdp {m:Md} (hM:ModOk m) {most:Int} {bad:Stt→Bool} {at_:Nat} {L:List Fnd} (h:LOk m most L) (ha:at_<L.length) :
  LOk m most (qbi m most bad at_ L).1∧L.length≤(qbi m most bad at_ L).1.length:=by
 have hm:L.getD at_ Fnd.none∈L:=by
  rw [zd,ze ha]
  exact xt ha
 exact jdo hM (h.fit _ hm) (h.dep at_ ha) _ L (fun v hv=>mem_movesF.1 hv) h ha
theorem qry {α:Type} {l:List α} {x:α} (d:α) (h:x∈l):∃ i,i<l.length∧l.getD i d=x:=by
 obtain ⟨i,hi,rfl⟩:=List.getElem_of_mem h
 exact ⟨i,hi,by rw [zd,ze hi];rfl⟩
theorem jrp {m:Md} (hM:ModOk m) {s:Stt} (hf:fitsB m s=true):StIn s:=by
 obtain ⟨h0,ha,hv,hc⟩:=(qap m s).1 hf
 have hsz:=hM.sz
 have h0':=h0
 unfold qny at h0'
 refine ⟨fun n hn=>?_,fun n hn=>?_,fun c hcm n hn=>?_,by omega,by omega⟩
 ·obtain ⟨i,hi,rfl⟩:=qry 0 hn
  have h1:=ha i hi
  unfold qlt at h1
  have h2:=hM.ok.place _ (qr m.procs i pr0 (by omega))
  omega
 ·obtain ⟨i,hi,rfl⟩:=qry 0 hn
  have h1:=hv i hi
  unfold qlu at h1
  have:=qnu (s.vars.getD i 0) (m.vars.getD i vr0).width
  omega
 ·obtain ⟨i,hi,rfl⟩:=qry [] hcm
  obtain ⟨k,hk,rfl⟩:=qry 0 hn
  have h1:=(hc i hi).2 k hk
  unfold qki at h1
  have:=qnu ((s.chans.getD i []).getD k 0) (m.chans.getD i ch0).width
  omega
end Go.Proofs.YtikahnkkfkoglaaGreatDoor
end
section
namespace Go.Proofs.YtikahnkkfkoglaaGreatDoor
open Go Go.Sx Go.St
def qay (m:Md) (steps most:Int):Int × Bool:=if steps<0 then (0,true) else if (qvq m steps most).2=true then ((qvq m steps most).1.length,true) else (0,false)
end Go.Proofs.YtikahnkkfkoglaaGreatDoor
end
