/- Some texts of the library, one behind the other. -/
import Derived.Test.YtcfllgdfhfcicaaGreatDoorQ25
import Derived.Test.YtcfllgdfhfcicaaGreatDoorQ23
import Derived.Test.YtcfllgdfhfcicaaGreatDoorQ2
set_option linter.unusedSimpArgs false
set_option linter.unusedVariables false
section
namespace Go.St
open Go Go.Sx
structure Mv where
 kind:Int:=0
 proc:Int:=0
 edge:Int:=0
 chn:Int:=0
deriving DecidableEq
def Mv.cells (v:Mv):List AV:=[iv v.kind,iv v.proc,iv v.edge,iv v.chn]
def Mv.av (v:Mv):AV:=.agg v.cells
def qgc (l:List Mv):AV:=slcL Mv.cells {} 4 l
def qlen (s:Stt) (c:Int):Int:=(s.chans.getD c.toNat []).length
def room (m:Md) (c:Int):Int:=(m.chans.getD c.toNat ch0).room
def canB (m:Md) (s:Stt) (p:Nat) (e:Ed):Bool:=
  (s.at_.getD p 0 == e.frm) && (decide (e.expr<0) || (val m p s e.expr).2) &&
  (if e.act=2 then decide (qlen s e.chn<room m e.chn)
   else if e.act=3 then decide (0<qlen s e.chn)
   else if e.act=4 then !((if e.expr<0 then 0 else (val m p s e.expr).1) == 0)
   else if e.act=5 then (if e.expr<0 then 0 else (val m p s e.expr).1) == 0
   else true)
def edgesOf (m:Md) (p:Nat):List Ed:=(m.procs.getD p pr0).edges
def qjl (m:Md) (s:Stt) (p:Nat):List Mv:=((List.range (edgesOf m p).length).filter fun i=>canB m s p ((edgesOf m p).getD i ed0)).map fun (i:Nat)=>⟨0,p,i,0⟩
def qjm (m:Md) (s:Stt) (c:Nat):Bool:=(m.chans.getD c ch0).lossy && decide (0<qlen s c)
def qig (m:Md) (s:Stt) (c:Nat):Bool:=(m.chans.getD c ch0).copying && decide (0<qlen s c) && decide (qlen s c<room m c)
def qih (m:Md) (s:Stt) (c:Nat):List Mv:=(if qjm m s c=true then [⟨1,0,0,c⟩] else [])++(if qig m s c=true then [⟨2,0,0,c⟩] else [])
def qap (m:Md) (s:Stt):List Mv:=
 (List.range m.procs.length).flatMap (fun (p:Nat)=>if s.holder≠-1∧s.holder≠p then [] else qjl m s p) ++
 (if s.holder=-1 then (List.range m.chans.length).flatMap (qih m s) else [])
def qop (m:Md) (s:Stt) (p:Nat):Bool:=(edgesOf m p).any (canB m s p)
def qn (m:Md) (s:Stt) (p:Nat) (e:Ed):Stt:=
 let n:=if e.expr<0 then 0 else (val m p s e.expr).1
 let a:={ s with at_:=s.at_.set p e.to,holder:=-1 }
 if e.act=1 then { a with vars:=s.vars.set e.var.toNat (trim n (m.vars.getD e.var.toNat vr0).width) }
 else if e.act=2 then { a with chans:=s.chans.set e.chn.toNat (s.chans.getD e.chn.toNat []++[trim n (m.chans.getD e.chn.toNat ch0).width]) }
 else if e.act=3 then { a with vars:=s.vars.set e.var.toNat (trim ((s.chans.getD e.chn.toNat []).getD 0 0) (m.vars.getD e.var.toNat vr0).width),chans:=s.chans.set e.chn.toNat ((s.chans.getD e.chn.toNat []).drop 1) }
 else a
def qbq (m:Md) (s:Stt) (p:Nat) (e:Ed):Stt:=
 { qn m s p e with holder:=if e.keep=true∧qop m (qn m s p e) p=true then (p:Int) else -1 }
def qu (m:Md) (s:Stt) (v:Mv):Stt:=
 if v.kind=1 then { s with chans:=s.chans.set v.chn.toNat ((s.chans.getD v.chn.toNat []).drop 1),holder:=-1 }
 else if v.kind=2 then { s with chans:=s.chans.set v.chn.toNat (s.chans.getD v.chn.toNat []++[(s.chans.getD v.chn.toNat []).getD 0 0]),holder:=-1 }
 else qbq m s v.proc.toNat ((edgesOf m v.proc.toNat).getD v.edge.toNat ed0)
def restB (m:Md) (s:Stt):Bool:=(List.range m.procs.length).all fun p=>(m.procs.getD p pr0).rest.getD (s.at_.getD p 0).toNat false
def deadB (m:Md) (s:Stt):Bool:=(qap m s).isEmpty && !restB m s
def badB (m:Md) (s:Stt):Bool:=!safeB m s || m.dead && deadB m s
end Go.St
end
section
namespace Go.St
open List renaming getD_eq_getElem?_getD → zd
open Go Go.Sx
theorem qdm {α:Type} (l:List α) (i j:Nat) (x d:α):(l.set i x).getD j d=if j=i∧i<l.length then x else l.getD j d:=by
 rw [zd,zd,List.getElem?_set]
 by_cases h:i=j
 ·subst h
  by_cases h2:i<l.length
  ·rw [zb rfl,zb h2,zb ⟨rfl,h2⟩];rfl
  ·rw [zb rfl,za h2,za (fun h=>h2 h.2),xe (by omega)]
 ·rw [za h,za (fun h2=>h h2.1.symm)]
section
variable {m:Md} {s:Stt}
theorem jto (hf:qm m s=true) (p:Nat) (x:Int) (hx:0≤x∧x<(m.procs.getD p pr0).places):qm m { s with at_:=s.at_.set p x }=true:=by
 obtain ⟨h0,hA,hV,hC⟩:=(jg m s).1 hf
 refine (jg m _).2 ⟨⟨by simpa using h0.1,h0.2.1,h0.2.2.1,h0.2.2.2⟩,fun i hi=>?_,hV,hC⟩
 have hi':i<s.at_.length:=by simpa using hi
 have:=hA i hi'
 unfold qnq at *
 simp only
 rw [qdm]
 split
 ·rename_i h;rw [h.1];exact hx
 ·exact this
theorem jfj (hf:qm m s=true) (k:Nat) (x:Int) (hx:trim x (m.vars.getD k vr0).width=x):qm m { s with vars:=s.vars.set k x }=true:=by
 obtain ⟨h0,hA,hV,hC⟩:=(jg m s).1 hf
 refine (jg m _).2 ⟨⟨h0.1,by simpa using h0.2.1,h0.2.2.1,h0.2.2.2⟩,hA,fun i hi=>?_,hC⟩
 have hi':i<s.vars.length:=by simpa using hi
 have:=hV i hi'
 unfold qlx at *
 simp only
 rw [qdm]
 split
 ·rename_i h;rw [h.1];exact hx
 ·exact this
theorem qsc (hf:qm m s=true) (k:Nat) (c:List Int) (hc:(c.length:Int)≤(m.chans.getD k ch0).room) (hx:∀ x∈c,trim x (m.chans.getD k ch0).width=x):qm m { s with chans:=s.chans.set k c }=true:=by
 obtain ⟨h0,hA,hV,hC⟩:=(jg m s).1 hf
 refine (jg m _).2 ⟨⟨h0.1,h0.2.1,by simpa using h0.2.2.1,h0.2.2.2⟩,hA,hV,fun i hi=>?_⟩
 have hi':i<s.chans.length:=by simpa using hi
 have:=hC i hi'
 unfold qiz qkk at *
 simp only
 rw [qdm]
 split
 ·rename_i h;rw [h.1];exact ⟨hc,fun q hq=>hx _ (qe _ _ _ hq)⟩
 ·exact this
theorem qmh (hf:qm m s=true) (h:Int) (hh:-1≤h∧h<m.procs.length):qm m { s with holder:=h }=true:=by
 obtain ⟨h0,hA,hV,hC⟩:=(jg m s).1 hf
 exact (jg m _).2 ⟨⟨h0.1,h0.2.1,h0.2.2.1,hh⟩,hA,hV,hC⟩
theorem qoq (hf:qm m s=true) (k:Nat):∀ x∈s.chans.getD k [],trim x (m.chans.getD k ch0).width=x:=by
 obtain ⟨h0,hA,hV,hC⟩:=(jg m s).1 hf
 intro x hx
 by_cases hk:k<s.chans.length
 ·obtain ⟨q,hq,rfl⟩:=List.mem_iff_getElem.1 hx
  have:=(hC k hk).2 q hq
  unfold qkk at this
  rw [zd (l:=s.chans.getD k []),ze hq] at this
  exact this
 ·rw [zd,xe (by omega)] at hx
  simp at hx
theorem qmr (hf:qm m s=true) {k:Nat} (hk:k<m.chans.length):((s.chans.getD k []).length:Int)≤(m.chans.getD k ch0).room:=by
 obtain ⟨h0,_,_,hC⟩:=(jg m s).1 hf
 exact (hC k (by rw [h0.2.2.1];exact hk)).1
theorem qcs (hM:ModOk m) (hf:qm m s=true):SSz s:=by
 have h0:=((jg m s).1 hf).1
 have hz:=hM.sz
 refine ⟨by rw [h0.1];omega,by rw [h0.2.1];omega,by rw [h0.2.2.1];omega,fun c hc=>?_⟩
 obtain ⟨i,hi,rfl⟩:=List.mem_iff_getElem.1 hc
 have hi':i<m.chans.length:=by rw [← h0.2.2.1];exact hi
 have h1:=qmr hf hi'
 have h2:=hM.ok.chan _ (qe m.chans i ch0 hi')
 rw [zd,ze hi] at h1
 simp only [zae] at h1
 omega
def je (m:Md) (s:Stt) (v:Mv):Bool:=
 if v.kind=0 then decide (v.chn=0∧(s.holder=-1∨s.holder=v.proc)) && (decide (0≤v.proc∧v.proc<m.procs.length∧0≤v.edge∧v.edge<(edgesOf m v.proc.toNat).length) && canB m s v.proc.toNat ((edgesOf m v.proc.toNat).getD v.edge.toNat ed0))
 else if v.kind=1∨v.kind=2 then decide (s.holder=-1∧v.proc=0∧v.edge=0∧0≤v.chn∧v.chn<m.chans.length) && (if v.kind=1 then qjm m s v.chn.toNat else qig m s v.chn.toNat)
 else false
theorem mem_edgeMoves {p:Nat} {v:Mv}:v∈qjl m s p↔v.kind=0∧v.proc=p∧v.chn=0∧(0≤v.edge∧v.edge<(edgesOf m p).length)∧canB m s p ((edgesOf m p).getD v.edge.toNat ed0)=true:=by
 unfold qjl
 simp only [List.mem_map,List.mem_filter,List.mem_range]
 constructor
 ·rintro ⟨i,⟨h1,h2⟩,rfl⟩
  exact ⟨rfl,rfl,rfl,⟨xr _,by simp only;omega⟩,h2⟩
 ·rintro ⟨h1,h2,h3,⟨h4,h5⟩,h6⟩
  refine ⟨v.edge.toNat,⟨by omega,h6⟩,?_⟩
  cases v with
  | mk k p' e c=>simp only at *;subst h1 h2 h3;rw [zbk h4]
theorem mem_chanMoves {c:Nat} {v:Mv}:v∈qih m s c↔(v.proc=0∧v.edge=0∧v.chn=c)∧(v.kind=1∧qjm m s c=true∨v.kind=2∧qig m s c=true):=by
 unfold qih
 rw [xk]
 constructor
 ·rintro (h|h)
  ·split at h
   ·rw [zm] at h;subst h;exact ⟨⟨rfl,rfl,rfl⟩,.inl ⟨rfl,by assumption⟩⟩
   ·simp at h
  ·split at h
   ·rw [zm] at h;subst h;exact ⟨⟨rfl,rfl,rfl⟩,.inr ⟨rfl,by assumption⟩⟩
   ·simp at h
 ·rintro ⟨⟨h1,h2,h3⟩,h⟩
  cases v with
  | mk k p' e c'=>
   simp only at *
   subst h1 h2 h3
   rcases h with ⟨rfl,h⟩|⟨rfl,h⟩
   ·left;rw [zb h];simp
   ·right;rw [zb h];simp
theorem mem_movesF {v:Mv}:v∈qap m s↔je m s v=true:=by
 unfold qap
 rw [xk,List.mem_flatMap]
 unfold je
 constructor
 ·rintro (⟨p,hp,h⟩|h)
  ·rw [List.mem_range] at hp
   split at h
   ·simp at h
   ·rename_i hh
    obtain ⟨h1,h2,h3,h4,h5⟩:=mem_edgeMoves.1 h
    rw [zb h1,h2,zu,h5,zo ⟨h3,by omega⟩,zo ⟨xr _,by omega,h4⟩];rfl
  ·split at h
   ·rename_i hh
    rw [List.mem_flatMap] at h
    obtain ⟨c,hc,h⟩:=h
    rw [List.mem_range] at hc
    obtain ⟨⟨h1,h2,h3⟩,h4⟩:=mem_chanMoves.1 h
    rw [za (by omega),zb (by omega),h3,zu,zo ⟨hh,h1,h2,xr _,by omega⟩,zbq]
    rcases h4 with ⟨h4,h5⟩|⟨h4,h5⟩
    ·rw [zb h4];exact h5
    ·rw [za (by omega)];exact h5
   ·simp at h
 ·intro h
  split at h
  ·rename_i h1
   rw [zf,zf] at h
   obtain ⟨h2,h3,h4⟩:=h
   have h2:=zi h2
   have h3:=zi h3
   refine .inl ⟨v.proc.toNat,List.mem_range.2 (by omega),?_⟩
   rw [za (by omega)]
   exact mem_edgeMoves.2 ⟨h1,by omega,h2.1,h3.2.2,h4⟩
  ·split at h
   ·rename_i h0 h1
    rw [zf] at h
    obtain ⟨h2,h3⟩:=h
    have h2:=zi h2
    right
    rw [zb h2.1,List.mem_flatMap]
    refine ⟨v.chn.toNat,List.mem_range.2 (by omega),mem_chanMoves.2 ⟨⟨h2.2.1,h2.2.2.1,by omega⟩,?_⟩⟩
    split at h3
    ·exact .inl ⟨by assumption,h3⟩
    ·exact .inr ⟨by omega,h3⟩
   ·cases h
theorem edOk (hM:ModOk m) {p:Nat} (hp:p<m.procs.length) {i:Nat} (hi:i<(edgesOf m p).length):EdOk m.tree.length m.vars.length m.chans.length (m.procs.getD p pr0).places ((edgesOf m p).getD i ed0):=
 (hM.pr _ (qe _ _ _ hp)).ed _ (qe _ _ _ hi)
theorem qor (hM:ModOk m) (hf:qm m s=true) {p:Nat} {e:Ed} (hto:0≤e.to∧e.to<(m.procs.getD p pr0).places) (hcn:e.act=2→qlen s e.chn<room m e.chn):qm m (qn m s p e)=true:=by
 have h0:=((jg m s).1 hf).1
 have ha:=qmh (jto hf p e.to hto) (-1) ⟨xi _,by omega⟩
 unfold qn
 simp only
 split
 ·exact jfj ha _ _ (qxe _ _)
 split
 ·rename_i h2
  have:=hcn h2
  unfold qlen room at this
  refine qsc ha _ _ (by simp only [zg,zq];omega) (fun x hx=>?_)
  rw [xk,zm] at hx
  rcases hx with hx|rfl
  ·exact qoq hf _ x hx
  ·exact qxe _ _
 split
 ·have hb:=jfj ha e.var.toNat (trim ((s.chans.getD e.chn.toNat []).getD 0 0) (m.vars.getD e.var.toNat vr0).width) (qxe _ _)
  refine qsc hb _ _ ?_ (fun x hx=>qoq hf _ x (zbf hx))
  rw [xf]
  by_cases hk:e.chn.toNat<m.chans.length
  ·have:=qmr hf hk;omega
  ·rw [zd (l:=s.chans),xe (by omega)]
   rw [zd,xe (by omega)]
   simp [ch0]
 ·exact ha
theorem qos {p:Nat} {e:Ed} (h:canB m s p e=true) (h2:e.act=2):qlen s e.chn<room m e.chn:=by
 unfold canB at h
 rw [zb h2,zf] at h
 exact zi h.2
theorem jfk (hM:ModOk m) (hf:qm m s=true) {v:Mv} (hv:je m s v=true):qm m (qu m s v)=true:=by
 have h0:=((jg m s).1 hf).1
 unfold je at hv
 unfold qu
 split at hv
 ·rename_i hk
  rw [zf,zf] at hv
  obtain ⟨h2,h3,h4⟩:=hv
  have h3:=zi h3
  rw [za (by omega),za (by omega)]
  have hp:v.proc.toNat<m.procs.length:=by omega
  have he:=edOk hM hp (i:=v.edge.toNat) (by omega)
  unfold qbq
  refine qmh (qor hM hf he.to (qos h4)) _ ?_
  split <;> omega
 ·split at hv
  ·rw [zf] at hv
   obtain ⟨h2,h3⟩:=hv
   have h2:=zi h2
   have hc:v.chn.toNat<m.chans.length:=by omega
   have hl:=qmr hf hc
   split
   ·refine qmh (s:={ s with chans:=s.chans.set v.chn.toNat ((s.chans.getD v.chn.toNat []).drop 1) }) (qsc hf _ _ (by rw [xf];omega) (fun x hx=>qoq hf _ x (zbf hx))) (-1) ⟨xi _,by omega⟩
   ·rename_i h1
    rw [za h1] at h3
    rw [zb (by omega)]
    unfold qig qlen room at h3
    simp only [zf,xd,zu] at h3
    refine qmh (s:={ s with chans:=s.chans.set v.chn.toNat (s.chans.getD v.chn.toNat []++[(s.chans.getD v.chn.toNat []).getD 0 0]) }) (qsc hf _ _ (by simp only [zg,zq];omega) (fun x hx=>?_)) (-1) ⟨xi _,by omega⟩
    rw [xk,zm] at hx
    rcases hx with hx|rfl
    ·exact qoq hf _ x hx
    ·exact qoq hf _ _ (qe _ _ _ (by omega))
  ·cases hv
def st0z:Stt:=⟨[],[],[],0⟩
def doB (m:Md) (s:Stt) (v:Mv):Bool:=qm m s && je m s v
def qsd (m:Md) (s:Stt) (v:Mv):Stt:=if doB m s v=true then qu m s v else st0z
end
structure Ev where
 kind:Int:=0
 mv:Int:=0
 prc:Int:=0
 ch:Int:=0
 msg:Int:=0
 frm:Int:=0
deriving DecidableEq
def Ev.cells (e:Ev):List AV:=[iv e.kind,iv e.mv,iv e.prc,iv e.ch,iv e.msg,iv e.frm]
def Ev.av (e:Ev):AV:=.agg e.cells
def evsV (l:List Ev):AV:=slcL Ev.cells {} 6 l
def jfl (l:List Stt):AV:=slcL Stt.cells st0z 4 l
def stN (m:Md) (l:List Mv):Nat→Stt
 | 0=>qt m
 | i+1=>qu m (stN m l i) (l.getD i {})
def okN (m:Md) (l:List Mv) (j:Nat):Bool:=je m (stN m l j) (l.getD j {})
def nF (m:Md) (l:List Mv):Nat:=((List.range l.length).takeWhile (okN m l)).length
theorem jfm (p:Nat→Bool):∀ (n i a:Nat),i≤n→(∀ j,j<i→p (a+j)=true)→(i=n∨p (a+i)=false)→((List.range' a n).takeWhile p).length=i
 | 0,i,a,hi,_,_=>by
  obtain rfl:i=0:=by omega
  rfl
 | n+1,0,a,hi,_,h2=>by
  rw [List.range'_succ,List.takeWhile_cons]
  rcases h2 with h2|h2
  ·omega
  ·rw [xl] at h2;rw [h2];rfl
 | n+1,i+1,a,hi,h1,h2=>by
  rw [List.range'_succ,List.takeWhile_cons]
  have h0:=h1 0 (by omega)
  rw [xl] at h0
  rw [h0,zb rfl,xm]
  congr 1
  refine jfm p n i (a+1) (by omega) (fun j hj=>?_) ?_
  ·have:=h1 (j+1) (by omega)
   rw [show a+1+j=a+(j+1) by omega];exact this
  ·rcases h2 with h2|h2
   ·exact .inl (by omega)
   ·right;rw [show a+1+i=a+(i+1) by omega];exact h2
theorem qmi {m:Md} {l:List Mv} {i:Nat} (hi:i≤l.length) (h1:∀ j,j<i→okN m l j=true) (h2:i=l.length∨okN m l i=false):nF m l=i:=by
 unfold nF
 rw [List.range_eq_range']
 exact jfm (okN m l) l.length i 0 hi (fun j hj=>by rw [zr];exact h1 j hj) (by rw [zr];exact h2)
theorem qse (m:Md) (l:List Mv):nF m l≤l.length∧(∀ j,j<nF m l→okN m l j=true)∧(nF m l=l.length∨okN m l (nF m l)=false):=by
 have key:∀ n,n≤l.length→(∃ i,i≤n∧(∀ j,j<i→okN m l j=true)∧(i=n∨okN m l i=false)):=by
  intro n
  induction n with
  | zero=>exact fun _=>⟨0,zk _,fun j hj=>absurd hj (zh j),.inl rfl⟩
  | succ n ih=>
   intro hn
   obtain ⟨i,h1,h2,h3⟩:=ih (by omega)
   rcases h3 with rfl|h3
   ·cases h:okN m l i with
    | true=>exact ⟨i+1,zk _,fun j hj=>by rcases Nat.lt_succ_iff_lt_or_eq.1 hj with h'|rfl;exact h2 j h';exact h,.inl rfl⟩
    | false=>exact ⟨i,by omega,h2,.inr h⟩
   ·exact ⟨i,by omega,h2,.inr h3⟩
 obtain ⟨i,h1,h2,h3⟩:=key l.length (zk _)
 rw [qmi h1 h2 h3]
 exact ⟨h1,h2,h3⟩
def qii (m:Md) (l:List Mv):List Stt:=(List.range (nF m l+1)).map (stN m l)
theorem qhf {m:Md} (hM:ModOk m) (h0:qm m (qt m)=true) {l:List Mv}:∀ {i:Nat},(∀ j,j<i→okN m l j=true)→qm m (stN m l i)=true
 | 0,_=>h0
 | i+1,h=>jfk hM (qhf hM h0 (i:=i) fun j hj=>h j (by omega)) (h i (by omega))
def qck (c:Int) (e:Ev):Bool:=decide (e.ch=c∧(e.kind=0∨e.kind=3))
def isTake (c:Int) (e:Ev):Bool:=decide (e.ch=c∧(e.kind=1∨e.kind=2))
def jt (E:List Ev) (c:Int):List Nat:=(List.range E.length).filter fun j=>qck c (E.getD j {})
def jh (E:List Ev) (c:Int):Nat:=E.countP (isTake c)
def waitOf (E:List Ev) (c:Int):List Nat:=(jt E c).drop (jh E c)
def jo (E:List Ev) (c:Int):Int:=match (jt E c)[jh E c]? with|some j=>j|none=>-1
theorem qgd {α:Type} (l l':List α) (d:α) {j:Nat} (h:j<l.length):(l++l').getD j d=l.getD j d:=by
 rw [zd,zd,zz h]
theorem qsf (E:List Ev) (e:Ev) (c:Int):jt (E++[e]) c=jt E c++(if qck c e=true then [E.length] else []):=by
 unfold jt
 rw [zg,zq,zat,zbo]
 congr 1
 ·refine List.filter_congr fun j hj=>?_
  rw [qgd _ _ _ (List.mem_range.1 hj)]
 ·have:(E++[e]).getD E.length {}=e:=by
   rw [zd,zt (zk _),xv];rfl
  rw [List.filter_cons,this]
  rfl
theorem qsg (E:List Ev) (e:Ev) (c:Int):jh (E++[e]) c=jh E c+(if isTake c e=true then 1 else 0):=by
 unfold jh
 rw [List.countP_append,List.countP_cons,List.countP_nil,zr]
theorem qot {E:List Ev} {c:Int} (h:0<(waitOf E c).length):jo E c=((waitOf E c).getD 0 0:Nat):=by
 unfold waitOf at h ⊢
 unfold jo
 rw [xf] at h
 rw [ze (by omega),zd,xj,xl,ze (by omega)]
 rfl
end Go.St
end
section
namespace Go.St
open Go Go.Sx
def jy (s:Stt) (c:Int):Int:=(s.chans.getD c.toNat []).getD 0 0
def qdn (s:Stt) (c:Int):Int:=(s.chans.getD c.toNat []).getD ((s.chans.getD c.toNat []).length - 1) 0
def edOf (m:Md) (v:Mv):Ed:=(edgesOf m v.proc.toNat).getD v.edge.toNat ed0
def evOf (m:Md) (s t:Stt) (i:Nat) (v:Mv) (E:List Ev):Option Ev:=
 if v.kind=1 then some ⟨2,i,-1,v.chn,jy s v.chn,jo E v.chn⟩
 else if v.kind=2 then some ⟨3,i,-1,v.chn,jy s v.chn,jo E v.chn⟩
 else if (edOf m v).act=2 then some ⟨0,i,v.proc,(edOf m v).chn,qdn t (edOf m v).chn,-1⟩
 else if (edOf m v).act=3 then some ⟨1,i,v.proc,(edOf m v).chn,jy s (edOf m v).chn,jo E (edOf m v).chn⟩
 else none
def evN (m:Md) (l:List Mv):Nat→List Ev
 | 0=>[]
 | i+1=>evN m l i++(evOf m (stN m l i) (stN m l (i+1)) i (l.getD i {}) (evN m l i)).toList
def qcd (m:Md) (l:List Mv):List Ev:=evN m l (nF m l)
theorem qou (m:Md) (l:List Mv):∀ i,(evN m l i).length≤i
 | 0=>zk _
 | i+1=>by
  have:=qou m l i
  unfold evN
  rw [zg]
  have:(evOf m (stN m l i) (stN m l (i+1)) i (l.getD i {}) (evN m l i)).toList.length≤1:=by
   cases evOf m (stN m l i) (stN m l (i+1)) i (l.getD i {}) (evN m l i) <;> simp
  omega
def Waits (m:Md) (s:Stt) (E:List Ev):Prop:=∀ c:Nat,c<m.chans.length→jh E c≤(jt E c).length∧(waitOf E c).length=(s.chans.getD c []).length
theorem qov {E:List Ev} {e:Ev} {c:Int} (hp:qck c e=true) (hg:jh E c≤(jt E c).length):jh (E++[e]) c=jh E c∧jh (E++[e]) c≤(jt (E++[e]) c).length∧waitOf (E++[e]) c=waitOf E c++[E.length]:=by
 have ht:isTake c e=false:=by
  unfold qck at hp
  unfold isTake
  have:=zi hp
  exact xx (by omega)
 have h1:jh (E++[e]) c=jh E c:=by rw [qsg,ht];rfl
 have h2:jt (E++[e]) c=jt E c++[E.length]:=by rw [qsf,zb hp]
 refine ⟨h1,by rw [h1,h2,zg];omega,?_⟩
 unfold waitOf
 rw [h1,h2,List.drop_append_of_le_length hg]
theorem qsh {E:List Ev} {e:Ev} {c:Int} (ht:isTake c e=true) (hg:jh E c≤(jt E c).length) (hw:0<(waitOf E c).length):jh (E++[e]) c=jh E c+1∧jh (E++[e]) c≤(jt (E++[e]) c).length∧waitOf (E++[e]) c=(waitOf E c).drop 1:=by
 have hp:qck c e=false:=by
  unfold isTake at ht
  unfold qck
  have:=zi ht
  exact xx (by omega)
 have h1:jh (E++[e]) c=jh E c+1:=by rw [qsg,ht];rfl
 have h2:jt (E++[e]) c=jt E c:=by rw [qsf,hp];simp
 unfold waitOf at hw
 rw [xf] at hw
 refine ⟨h1,by rw [h1,h2];omega,?_⟩
 unfold waitOf
 rw [h1,h2,zbu]
theorem qel {E:List Ev} {e:Ev} {c:Int} (h:e.ch≠c):jh (E++[e]) c=jh E c∧jt (E++[e]) c=jt E c∧waitOf (E++[e]) c=waitOf E c:=by
 have hp:qck c e=false:=xx (fun k=>h k.1)
 have ht:isTake c e=false:=xx (fun k=>h k.1)
 have h1:jh (E++[e]) c=jh E c:=by rw [qsg,ht];rfl
 have h2:jt (E++[e]) c=jt E c:=by rw [qsf,hp];simp
 exact ⟨h1,h2,by unfold waitOf;rw [h1,h2]⟩
end Go.St
end
