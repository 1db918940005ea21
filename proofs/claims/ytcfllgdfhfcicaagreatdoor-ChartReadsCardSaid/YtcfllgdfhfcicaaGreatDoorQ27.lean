/- Some texts of the library, one behind the other. -/
import Derived.Test.YtcfllgdfhfcicaaGreatDoorQ26
import Derived.Test.YtcfllgdfhfcicaaGreatDoorQ24
import Derived.Test.YtcfllgdfhfcicaaGreatDoorQ18
import Derived.Test.YtcfllgdfhfcicaaGreatDoorQ3
import Derived.Test.YtcfllgdfhfcicaaGreatDoorQ2
section
namespace Go.St
open Go Go.Sx
structure Mv where
 kind:Int:=0
 proc:Int:=0
 edge:Int:=0
 chn:Int:=0
deriving DecidableEq
def Mv.cells (v:Mv):List AV:=[iv v.kind,iv v.proc,iv v.edge,iv v.chn]
def Mv.av (v:Mv):AV:=.agg v.cells
def qlh (l:List Mv):AV:=slcL Mv.cells {} 4 l
def qlen (s:Stt) (c:Int):Int:=(s.chans.getD c.toNat []).length
def room (m:Md) (c:Int):Int:=(m.chans.getD c.toNat ch0).room
def canB (m:Md) (s:Stt) (p:Nat) (e:Ed):Bool:=
  (s.at_.getD p 0 == e.frm) && (decide (e.expr<0) || (val m p s e.expr).2) &&
  (if e.act=2 then decide (qlen s e.chn<room m e.chn)
   else if e.act=3 then decide (0<qlen s e.chn)
   else if e.act=4 then !((if e.expr<0 then 0 else (val m p s e.expr).1) == 0)
   else if e.act=5 then (if e.expr<0 then 0 else (val m p s e.expr).1) == 0
   else true)
def edgesOf (m:Md) (p:Nat):List Ed:=(m.procs.getD p pr0).edges
def qvm (m:Md) (s:Stt) (p:Nat):List Mv:=((List.range (edgesOf m p).length).filter fun i=>canB m s p ((edgesOf m p).getD i ed0)).map fun (i:Nat)=>⟨0,p,i,0⟩
def qli (m:Md) (s:Stt) (c:Nat):Bool:=(m.chans.getD c ch0).lossy && decide (0<qlen s c)
def qjv (m:Md) (s:Stt) (c:Nat):Bool:=(m.chans.getD c ch0).copying && decide (0<qlen s c) && decide (qlen s c<room m c)
def qvn (m:Md) (s:Stt) (c:Nat):List Mv:=(if qli m s c=true then [⟨1,0,0,c⟩] else [])++(if qjv m s c=true then [⟨2,0,0,c⟩] else [])
def qvo (m:Md) (s:Stt):List Mv:=
 (List.range m.procs.length).flatMap (fun (p:Nat)=>if s.holder≠-1∧s.holder≠p then [] else qvm m s p) ++
 (if s.holder=-1 then (List.range m.chans.length).flatMap (qvn m s) else [])
def qvp (m:Md) (s:Stt) (p:Nat):Bool:=(edgesOf m p).any (canB m s p)
def qbi (m:Md) (s:Stt) (p:Nat) (e:Ed):Stt:=
 let n:=if e.expr<0 then 0 else (val m p s e.expr).1
 let a:={ s with at_:=s.at_.set p e.to,holder:=-1 }
 if e.act=1 then { a with vars:=s.vars.set e.var.toNat (trim n (m.vars.getD e.var.toNat vr0).width) }
 else if e.act=2 then { a with chans:=s.chans.set e.chn.toNat (s.chans.getD e.chn.toNat []++[trim n (m.chans.getD e.chn.toNat ch0).width]) }
 else if e.act=3 then { a with vars:=s.vars.set e.var.toNat (trim ((s.chans.getD e.chn.toNat []).getD 0 0) (m.vars.getD e.var.toNat vr0).width),chans:=s.chans.set e.chn.toNat ((s.chans.getD e.chn.toNat []).drop 1) }
 else a
def qdu (m:Md) (s:Stt) (p:Nat) (e:Ed):Stt:=
 { qbi m s p e with holder:=if e.keep=true∧qvp m (qbi m s p e) p=true then (p:Int) else -1 }
def jf (m:Md) (s:Stt) (v:Mv):Stt:=
 if v.kind=1 then { s with chans:=s.chans.set v.chn.toNat ((s.chans.getD v.chn.toNat []).drop 1),holder:=-1 }
 else if v.kind=2 then { s with chans:=s.chans.set v.chn.toNat (s.chans.getD v.chn.toNat []++[(s.chans.getD v.chn.toNat []).getD 0 0]),holder:=-1 }
 else qdu m s v.proc.toNat ((edgesOf m v.proc.toNat).getD v.edge.toNat ed0)
def restB (m:Md) (s:Stt):Bool:=(List.range m.procs.length).all fun p=>(m.procs.getD p pr0).rest.getD (s.at_.getD p 0).toNat false
def deadB (m:Md) (s:Stt):Bool:=(qvo m s).isEmpty && !restB m s
def badB (m:Md) (s:Stt):Bool:=!safeB m s || m.dead && deadB m s
end Go.St
end
section
namespace Go.St
open List renaming getD_eq_getElem?_getD → zd
open Go Go.Sx
theorem qgk {α:Type} (l:List α) (i j:Nat) (x d:α):(l.set i x).getD j d=if j=i∧i<l.length then x else l.getD j d:=by
 rw [zd,zd,List.getElem?_set]
 by_cases h:i=j
 ·subst h
  by_cases h2:i<l.length
  ·rw [if_pos rfl,if_pos h2,if_pos ⟨rfl,h2⟩];rfl
  ·rw [if_pos rfl,if_neg h2,if_neg (fun h=>h2 h.2),List.getElem?_eq_none (by omega)]
 ·rw [if_neg h,if_neg (fun h2=>h h2.1.symm)]
section
variable {m:Md} {s:Stt}
theorem jrk (hf:qq m s=true) (p:Nat) (x:Int) (hx:0≤x∧x<(m.procs.getD p pr0).places):qq m { s with at_:=s.at_.set p x }=true:=by
 obtain ⟨h0,hA,hV,hC⟩:=(qag m s).1 hf
 refine (qag m _).2 ⟨⟨by simpa using h0.1,h0.2.1,h0.2.2.1,h0.2.2.2⟩,fun i hi=>?_,hV,hC⟩
 have hi':i<s.at_.length:=by simpa using hi
 have:=hA i hi'
 unfold qpz at *
 simp only
 rw [qgk]
 split
 ·rename_i h;rw [h.1];exact hx
 ·exact this
theorem jdt (hf:qq m s=true) (k:Nat) (x:Int) (hx:trim x (m.vars.getD k vr0).width=x):qq m { s with vars:=s.vars.set k x }=true:=by
 obtain ⟨h0,hA,hV,hC⟩:=(qag m s).1 hf
 refine (qag m _).2 ⟨⟨h0.1,by simpa using h0.2.1,h0.2.2.1,h0.2.2.2⟩,hA,fun i hi=>?_,hC⟩
 have hi':i<s.vars.length:=by simpa using hi
 have:=hV i hi'
 unfold qmp at *
 simp only
 rw [qgk]
 split
 ·rename_i h;rw [h.1];exact hx
 ·exact this
theorem qqs (hf:qq m s=true) (k:Nat) (c:List Int) (hc:(c.length:Int)≤(m.chans.getD k ch0).room) (hx:∀ x∈c,trim x (m.chans.getD k ch0).width=x):qq m { s with chans:=s.chans.set k c }=true:=by
 obtain ⟨h0,hA,hV,hC⟩:=(qag m s).1 hf
 refine (qag m _).2 ⟨⟨h0.1,h0.2.1,by simpa using h0.2.2.1,h0.2.2.2⟩,hA,hV,fun i hi=>?_⟩
 have hi':i<s.chans.length:=by simpa using hi
 have:=hC i hi'
 unfold qji qjj at *
 simp only
 rw [qgk]
 split
 ·rename_i h;rw [h.1];exact ⟨hc,fun q hq=>hx _ (qj _ _ _ hq)⟩
 ·exact this
theorem qlj (hf:qq m s=true) (h:Int) (hh:-1≤h∧h<m.procs.length):qq m { s with holder:=h }=true:=by
 obtain ⟨h0,hA,hV,hC⟩:=(qag m s).1 hf
 exact (qag m _).2 ⟨⟨h0.1,h0.2.1,h0.2.2.1,hh⟩,hA,hV,hC⟩
theorem qnq (hf:qq m s=true) (k:Nat):∀ x∈s.chans.getD k [],trim x (m.chans.getD k ch0).width=x:=by
 obtain ⟨h0,hA,hV,hC⟩:=(qag m s).1 hf
 intro x hx
 by_cases hk:k<s.chans.length
 ·obtain ⟨q,hq,rfl⟩:=List.mem_iff_getElem.1 hx
  have:=(hC k hk).2 q hq
  unfold qjj at this
  rw [zd (l:=s.chans.getD k []),List.getElem?_eq_getElem hq] at this
  exact this
 ·rw [zd,List.getElem?_eq_none (by omega)] at hx
  simp at hx
theorem qlr (hf:qq m s=true) {k:Nat} (hk:k<m.chans.length):((s.chans.getD k []).length:Int)≤(m.chans.getD k ch0).room:=by
 obtain ⟨h0,_,_,hC⟩:=(qag m s).1 hf
 exact (hC k (by rw [h0.2.2.1];exact hk)).1
theorem qfa (hM:ModOk m) (hf:qq m s=true):SSz s:=by
 have h0:=((qag m s).1 hf).1
 have hz:=hM.sz
 refine ⟨by rw [h0.1];omega,by rw [h0.2.1];omega,by rw [h0.2.2.1];omega,fun c hc=>?_⟩
 obtain ⟨i,hi,rfl⟩:=List.mem_iff_getElem.1 hc
 have hi':i<m.chans.length:=by rw [← h0.2.2.1];exact hi
 have h1:=qlr hf hi'
 have h2:=hM.ok.chan _ (qj m.chans i ch0 hi')
 rw [zd,List.getElem?_eq_getElem hi] at h1
 simp only [Option.getD_some] at h1
 omega
def qan (m:Md) (s:Stt) (v:Mv):Bool:=
 if v.kind=0 then decide (v.chn=0∧(s.holder=-1∨s.holder=v.proc)) && (decide (0≤v.proc∧v.proc<m.procs.length∧0≤v.edge∧v.edge<(edgesOf m v.proc.toNat).length) && canB m s v.proc.toNat ((edgesOf m v.proc.toNat).getD v.edge.toNat ed0))
 else if v.kind=1∨v.kind=2 then decide (s.holder=-1∧v.proc=0∧v.edge=0∧0≤v.chn∧v.chn<m.chans.length) && (if v.kind=1 then qli m s v.chn.toNat else qjv m s v.chn.toNat)
 else false
theorem mem_edgeMoves {p:Nat} {v:Mv}:v∈qvm m s p↔v.kind=0∧v.proc=p∧v.chn=0∧(0≤v.edge∧v.edge<(edgesOf m p).length)∧canB m s p ((edgesOf m p).getD v.edge.toNat ed0)=true:=by
 unfold qvm
 simp only [List.mem_map,List.mem_filter,List.mem_range]
 constructor
 ·rintro ⟨i,⟨h1,h2⟩,rfl⟩
  exact ⟨rfl,rfl,rfl,⟨Int.natCast_nonneg _,by simp only;omega⟩,h2⟩
 ·rintro ⟨h1,h2,h3,⟨h4,h5⟩,h6⟩
  refine ⟨v.edge.toNat,⟨by omega,h6⟩,?_⟩
  cases v with
  | mk k p' e c=>simp only at *;subst h1 h2 h3;rw [Int.toNat_of_nonneg h4]
theorem mem_chanMoves {c:Nat} {v:Mv}:v∈qvn m s c↔(v.proc=0∧v.edge=0∧v.chn=c)∧(v.kind=1∧qli m s c=true∨v.kind=2∧qjv m s c=true):=by
 unfold qvn
 rw [List.mem_append]
 constructor
 ·rintro (h|h)
  ·split at h
   ·rw [List.mem_singleton] at h;subst h;exact ⟨⟨rfl,rfl,rfl⟩,.inl ⟨rfl,by assumption⟩⟩
   ·simp at h
  ·split at h
   ·rw [List.mem_singleton] at h;subst h;exact ⟨⟨rfl,rfl,rfl⟩,.inr ⟨rfl,by assumption⟩⟩
   ·simp at h
 ·rintro ⟨⟨h1,h2,h3⟩,h⟩
  cases v with
  | mk k p' e c'=>
   simp only at *
   subst h1 h2 h3
   rcases h with ⟨rfl,h⟩|⟨rfl,h⟩
   ·left;rw [if_pos h];simp
   ·right;rw [if_pos h];simp
theorem jvk {v:Mv}:v∈qvo m s↔qan m s v=true:=by
 unfold qvo
 rw [List.mem_append,List.mem_flatMap]
 unfold qan
 constructor
 ·rintro (⟨p,hp,h⟩|h)
  ·rw [List.mem_range] at hp
   split at h
   ·simp at h
   ·rename_i hh
    obtain ⟨h1,h2,h3,h4,h5⟩:=mem_edgeMoves.1 h
    rw [if_pos h1,h2,Int.toNat_natCast,h5,decide_eq_true ⟨h3,by omega⟩,decide_eq_true ⟨Int.natCast_nonneg _,by omega,h4⟩];rfl
  ·split at h
   ·rename_i hh
    rw [List.mem_flatMap] at h
    obtain ⟨c,hc,h⟩:=h
    rw [List.mem_range] at hc
    obtain ⟨⟨h1,h2,h3⟩,h4⟩:=mem_chanMoves.1 h
    rw [if_neg (by omega),if_pos (by omega),h3,Int.toNat_natCast,decide_eq_true ⟨hh,h1,h2,Int.natCast_nonneg _,by omega⟩,Bool.true_and]
    rcases h4 with ⟨h4,h5⟩|⟨h4,h5⟩
    ·rw [if_pos h4];exact h5
    ·rw [if_neg (by omega)];exact h5
   ·simp at h
 ·intro h
  split at h
  ·rename_i h1
   rw [Bool.and_eq_true,Bool.and_eq_true] at h
   obtain ⟨h2,h3,h4⟩:=h
   have h2:=of_decide_eq_true h2
   have h3:=of_decide_eq_true h3
   refine .inl ⟨v.proc.toNat,List.mem_range.2 (by omega),?_⟩
   rw [if_neg (by omega)]
   exact mem_edgeMoves.2 ⟨h1,by omega,h2.1,h3.2.2,h4⟩
  ·split at h
   ·rename_i h0 h1
    rw [Bool.and_eq_true] at h
    obtain ⟨h2,h3⟩:=h
    have h2:=of_decide_eq_true h2
    right
    rw [if_pos h2.1,List.mem_flatMap]
    refine ⟨v.chn.toNat,List.mem_range.2 (by omega),mem_chanMoves.2 ⟨⟨h2.2.1,h2.2.2.1,by omega⟩,?_⟩⟩
    split at h3
    ·exact .inl ⟨by assumption,h3⟩
    ·exact .inr ⟨by omega,h3⟩
   ·cases h
theorem edOk (hM:ModOk m) {p:Nat} (hp:p<m.procs.length) {i:Nat} (hi:i<(edgesOf m p).length):EdOk m.tree.length m.vars.length m.chans.length (m.procs.getD p pr0).places ((edgesOf m p).getD i ed0):=
 (hM.pr _ (qj _ _ _ hp)).ed _ (qj _ _ _ hi)
theorem qvq (hM:ModOk m) (hf:qq m s=true) {p:Nat} {e:Ed} (hto:0≤e.to∧e.to<(m.procs.getD p pr0).places) (hcn:e.act=2→qlen s e.chn<room m e.chn):qq m (qbi m s p e)=true:=by
 have h0:=((qag m s).1 hf).1
 have ha:=qlj (jrk hf p e.to hto) (-1) ⟨Int.le_refl _,by omega⟩
 unfold qbi
 simp only
 split
 ·exact jdt ha _ _ (qvl _ _)
 split
 ·rename_i h2
  have:=hcn h2
  unfold qlen room at this
  refine qqs ha _ _ (by simp only [List.length_append,List.length_singleton];omega) (fun x hx=>?_)
  rw [List.mem_append,List.mem_singleton] at hx
  rcases hx with hx|rfl
  ·exact qnq hf _ x hx
  ·exact qvl _ _
 split
 ·have hb:=jdt ha e.var.toNat (trim ((s.chans.getD e.chn.toNat []).getD 0 0) (m.vars.getD e.var.toNat vr0).width) (qvl _ _)
  refine qqs hb _ _ ?_ (fun x hx=>qnq hf _ x (List.mem_of_mem_drop hx))
  rw [List.length_drop]
  by_cases hk:e.chn.toNat<m.chans.length
  ·have:=qlr hf hk;omega
  ·rw [zd (l:=s.chans),List.getElem?_eq_none (by omega)]
   rw [zd,List.getElem?_eq_none (by omega)]
   simp [ch0]
 ·exact ha
theorem qvr {p:Nat} {e:Ed} (h:canB m s p e=true) (h2:e.act=2):qlen s e.chn<room m e.chn:=by
 unfold canB at h
 rw [if_pos h2,Bool.and_eq_true] at h
 exact of_decide_eq_true h.2
theorem jdu (hM:ModOk m) (hf:qq m s=true) {v:Mv} (hv:qan m s v=true):qq m (jf m s v)=true:=by
 have h0:=((qag m s).1 hf).1
 unfold qan at hv
 unfold jf
 split at hv
 ·rename_i hk
  rw [Bool.and_eq_true,Bool.and_eq_true] at hv
  obtain ⟨h2,h3,h4⟩:=hv
  have h3:=of_decide_eq_true h3
  rw [if_neg (by omega),if_neg (by omega)]
  have hp:v.proc.toNat<m.procs.length:=by omega
  have he:=edOk hM hp (i:=v.edge.toNat) (by omega)
  unfold qdu
  refine qlj (qvq hM hf he.to (qvr h4)) _ ?_
  split <;> omega
 ·split at hv
  ·rw [Bool.and_eq_true] at hv
   obtain ⟨h2,h3⟩:=hv
   have h2:=of_decide_eq_true h2
   have hc:v.chn.toNat<m.chans.length:=by omega
   have hl:=qlr hf hc
   split
   ·refine qlj (s:={ s with chans:=s.chans.set v.chn.toNat ((s.chans.getD v.chn.toNat []).drop 1) }) (qqs hf _ _ (by rw [List.length_drop];omega) (fun x hx=>qnq hf _ x (List.mem_of_mem_drop hx))) (-1) ⟨Int.le_refl _,by omega⟩
   ·rename_i h1
    rw [if_neg h1] at h3
    rw [if_pos (by omega)]
    unfold qjv qlen room at h3
    simp only [Bool.and_eq_true,decide_eq_true_eq,Int.toNat_natCast] at h3
    refine qlj (s:={ s with chans:=s.chans.set v.chn.toNat (s.chans.getD v.chn.toNat []++[(s.chans.getD v.chn.toNat []).getD 0 0]) }) (qqs hf _ _ (by simp only [List.length_append,List.length_singleton];omega) (fun x hx=>?_)) (-1) ⟨Int.le_refl _,by omega⟩
    rw [List.mem_append,List.mem_singleton] at hx
    rcases hx with hx|rfl
    ·exact qnq hf _ x hx
    ·exact qnq hf _ _ (qj _ _ _ (by omega))
  ·cases hv
def st0z:Stt:=⟨[],[],[],0⟩
def doB (m:Md) (s:Stt) (v:Mv):Bool:=qq m s && qan m s v
def qqt (m:Md) (s:Stt) (v:Mv):Stt:=if doB m s v=true then jf m s v else st0z
end
structure Ev where
 kind:Int:=0
 mv:Int:=0
 prc:Int:=0
 ch:Int:=0
 msg:Int:=0
 frm:Int:=0
deriving DecidableEq
def Ev.cells (e:Ev):List AV:=[iv e.kind,iv e.mv,iv e.prc,iv e.ch,iv e.msg,iv e.frm]
def Ev.av (e:Ev):AV:=.agg e.cells
def evsV (l:List Ev):AV:=slcL Ev.cells {} 6 l
def stN (m:Md) (l:List Mv):Nat→Stt
 | 0=>qbo m
 | i+1=>jf m (stN m l i) (l.getD i {})
def okN (m:Md) (l:List Mv) (j:Nat):Bool:=qan m (stN m l j) (l.getD j {})
def nF (m:Md) (l:List Mv):Nat:=((List.range l.length).takeWhile (okN m l)).length
theorem jdv (p:Nat→Bool):∀ (n i a:Nat),i≤n→(∀ j,j<i→p (a+j)=true)→(i=n∨p (a+i)=false)→((List.range' a n).takeWhile p).length=i
 | 0,i,a,hi,_,_=>by
  obtain rfl:i=0:=by omega
  rfl
 | n+1,0,a,hi,_,h2=>by
  rw [List.range'_succ,List.takeWhile_cons]
  rcases h2 with h2|h2
  ·omega
  ·rw [Nat.add_zero] at h2;rw [h2];rfl
 | n+1,i+1,a,hi,h1,h2=>by
  rw [List.range'_succ,List.takeWhile_cons]
  have h0:=h1 0 (by omega)
  rw [Nat.add_zero] at h0
  rw [h0,if_pos rfl,List.length_cons]
  congr 1
  refine jdv p n i (a+1) (by omega) (fun j hj=>?_) ?_
  ·have:=h1 (j+1) (by omega)
   rw [show a+1+j=a+(j+1) by omega];exact this
  ·rcases h2 with h2|h2
   ·exact .inl (by omega)
   ·right;rw [show a+1+i=a+(i+1) by omega];exact h2
theorem qqu {m:Md} {l:List Mv} {i:Nat} (hi:i≤l.length) (h1:∀ j,j<i→okN m l j=true) (h2:i=l.length∨okN m l i=false):nF m l=i:=by
 unfold nF
 rw [List.range_eq_range']
 exact jdv (okN m l) l.length i 0 hi (fun j hj=>by rw [Nat.zero_add];exact h1 j hj) (by rw [Nat.zero_add];exact h2)
theorem jrl (m:Md) (l:List Mv):nF m l≤l.length∧(∀ j,j<nF m l→okN m l j=true)∧(nF m l=l.length∨okN m l (nF m l)=false):=by
 have key:∀ n,n≤l.length→(∃ i,i≤n∧(∀ j,j<i→okN m l j=true)∧(i=n∨okN m l i=false)):=by
  intro n
  induction n with
  | zero=>exact fun _=>⟨0,Nat.le_refl _,fun j hj=>absurd hj (Nat.not_lt_zero j),.inl rfl⟩
  | succ n ih=>
   intro hn
   obtain ⟨i,h1,h2,h3⟩:=ih (by omega)
   rcases h3 with rfl|h3
   ·cases h:okN m l i with
    | true=>exact ⟨i+1,Nat.le_refl _,fun j hj=>by rcases Nat.lt_succ_iff_lt_or_eq.1 hj with h'|rfl;exact h2 j h';exact h,.inl rfl⟩
    | false=>exact ⟨i,by omega,h2,.inr h⟩
   ·exact ⟨i,by omega,h2,.inr h3⟩
 obtain ⟨i,h1,h2,h3⟩:=key l.length (Nat.le_refl _)
 rw [qqu h1 h2 h3]
 exact ⟨h1,h2,h3⟩
theorem qnr {m:Md} (hM:ModOk m) (h0:qq m (qbo m)=true) {l:List Mv}:∀ {i:Nat},(∀ j,j<i→okN m l j=true)→qq m (stN m l i)=true
 | 0,_=>h0
 | i+1,h=>jdu hM (qnr hM h0 (i:=i) fun j hj=>h j (by omega)) (h i (by omega))
def qgl (c:Int) (e:Ev):Bool:=decide (e.ch=c∧(e.kind=0∨e.kind=3))
def qho (c:Int) (e:Ev):Bool:=decide (e.ch=c∧(e.kind=1∨e.kind=2))
def qbj (E:List Ev) (c:Int):List Nat:=(List.range E.length).filter fun j=>qgl c (E.getD j {})
def jq (E:List Ev) (c:Int):Nat:=E.countP (qho c)
def qw (E:List Ev) (c:Int):List Nat:=(qbj E c).drop (jq E c)
def qaz (E:List Ev) (c:Int):Int:=match (qbj E c)[jq E c]? with|some j=>j|none=>-1
theorem jrm {α:Type} (l l':List α) (d:α) {j:Nat} (h:j<l.length):(l++l').getD j d=l.getD j d:=by
 rw [zd,zd,List.getElem?_append_left h]
theorem qvs (E:List Ev) (e:Ev) (c:Int):qbj (E++[e]) c=qbj E c++(if qgl c e=true then [E.length] else []):=by
 unfold qbj
 rw [List.length_append,List.length_singleton,List.range_succ,List.filter_append]
 congr 1
 ·refine List.filter_congr fun j hj=>?_
  rw [jrm _ _ _ (List.mem_range.1 hj)]
 ·have:(E++[e]).getD E.length {}=e:=by
   rw [zd,List.getElem?_append_right (Nat.le_refl _),Nat.sub_self];rfl
  rw [List.filter_cons,this]
  rfl
theorem qvt (E:List Ev) (e:Ev) (c:Int):jq (E++[e]) c=jq E c+(if qho c e=true then 1 else 0):=by
 unfold jq
 rw [List.countP_append,List.countP_cons,List.countP_nil,Nat.zero_add]
theorem qvu {E:List Ev} {c:Int} (h:0<(qw E c).length):qaz E c=((qw E c).getD 0 0:Nat):=by
 unfold qw at h ⊢
 unfold qaz
 rw [List.length_drop] at h
 rw [List.getElem?_eq_getElem (by omega),zd,List.getElem?_drop,Nat.add_zero,List.getElem?_eq_getElem (by omega)]
 rfl
end Go.St
end
section
namespace Go.St
open Go Go.Sx
def qba (s:Stt) (c:Int):Int:=(s.chans.getD c.toNat []).getD 0 0
def qei (s:Stt) (c:Int):Int:=(s.chans.getD c.toNat []).getD ((s.chans.getD c.toNat []).length - 1) 0
def edOf (m:Md) (v:Mv):Ed:=(edgesOf m v.proc.toNat).getD v.edge.toNat ed0
def evOf (m:Md) (s t:Stt) (i:Nat) (v:Mv) (E:List Ev):Option Ev:=
 if v.kind=1 then some ⟨2,i,-1,v.chn,qba s v.chn,qaz E v.chn⟩
 else if v.kind=2 then some ⟨3,i,-1,v.chn,qba s v.chn,qaz E v.chn⟩
 else if (edOf m v).act=2 then some ⟨0,i,v.proc,(edOf m v).chn,qei t (edOf m v).chn,-1⟩
 else if (edOf m v).act=3 then some ⟨1,i,v.proc,(edOf m v).chn,qba s (edOf m v).chn,qaz E (edOf m v).chn⟩
 else none
def evN (m:Md) (l:List Mv):Nat→List Ev
 | 0=>[]
 | i+1=>evN m l i++(evOf m (stN m l i) (stN m l (i+1)) i (l.getD i {}) (evN m l i)).toList
def qdl (m:Md) (l:List Mv):List Ev:=evN m l (nF m l)
theorem qqv (m:Md) (l:List Mv):∀ i,(evN m l i).length≤i
 | 0=>Nat.le_refl _
 | i+1=>by
  have:=qqv m l i
  unfold evN
  rw [List.length_append]
  have:(evOf m (stN m l i) (stN m l (i+1)) i (l.getD i {}) (evN m l i)).toList.length≤1:=by
   cases evOf m (stN m l i) (stN m l (i+1)) i (l.getD i {}) (evN m l i) <;> simp
  omega
def qcy (m:Md) (s:Stt) (E:List Ev):Prop:=∀ c:Nat,c<m.chans.length→jq E c≤(qbj E c).length∧(qw E c).length=(s.chans.getD c []).length
theorem qvv {E:List Ev} {e:Ev} {c:Int} (hp:qgl c e=true) (hg:jq E c≤(qbj E c).length):jq (E++[e]) c=jq E c∧jq (E++[e]) c≤(qbj (E++[e]) c).length∧qw (E++[e]) c=qw E c++[E.length]:=by
 have ht:qho c e=false:=by
  unfold qgl at hp
  unfold qho
  have:=of_decide_eq_true hp
  exact decide_eq_false (by omega)
 have h1:jq (E++[e]) c=jq E c:=by rw [qvt,ht];rfl
 have h2:qbj (E++[e]) c=qbj E c++[E.length]:=by rw [qvs,if_pos hp]
 refine ⟨h1,by rw [h1,h2,List.length_append];omega,?_⟩
 unfold qw
 rw [h1,h2,List.drop_append_of_le_length hg]
theorem jdw {E:List Ev} {e:Ev} {c:Int} (ht:qho c e=true) (hg:jq E c≤(qbj E c).length) (hw:0<(qw E c).length):jq (E++[e]) c=jq E c+1∧jq (E++[e]) c≤(qbj (E++[e]) c).length∧qw (E++[e]) c=(qw E c).drop 1:=by
 have hp:qgl c e=false:=by
  unfold qho at ht
  unfold qgl
  have:=of_decide_eq_true ht
  exact decide_eq_false (by omega)
 have h1:jq (E++[e]) c=jq E c+1:=by rw [qvt,ht];rfl
 have h2:qbj (E++[e]) c=qbj E c:=by rw [qvs,hp];simp
 unfold qw at hw
 rw [List.length_drop] at hw
 refine ⟨h1,by rw [h1,h2];omega,?_⟩
 unfold qw
 rw [h1,h2,List.drop_drop]
theorem qgm {E:List Ev} {e:Ev} {c:Int} (h:e.ch≠c):jq (E++[e]) c=jq E c∧qbj (E++[e]) c=qbj E c∧qw (E++[e]) c=qw E c:=by
 have hp:qgl c e=false:=decide_eq_false (fun k=>h k.1)
 have ht:qho c e=false:=decide_eq_false (fun k=>h k.1)
 have h1:jq (E++[e]) c=jq E c:=by rw [qvt,ht];rfl
 have h2:qbj (E++[e]) c=qbj E c:=by rw [qvs,hp];simp
 exact ⟨h1,h2,by unfold qw;rw [h1,h2]⟩
end Go.St
end
section
namespace Go.Proofs.YtcfllgdfhfcicaaGreatDoor
open Go Go.Sx Go.RowKit Go.St
set_option maxRecDepth 100000
set_option maxHeartbeats 2000000



end Go.Proofs.YtcfllgdfhfcicaaGreatDoor
end
