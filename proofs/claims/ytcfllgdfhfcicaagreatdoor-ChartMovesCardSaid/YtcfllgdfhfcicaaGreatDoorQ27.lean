/- Some texts of the library, one behind the other. -/
import Derived.Test.YtcfllgdfhfcicaaGreatDoorQ4
import Derived.Test.YtcfllgdfhfcicaaGreatDoorQ24
import Derived.Test.YtcfllgdfhfcicaaGreatDoorQ2
section
namespace Go.St
open List renaming getD_eq_getElem?_getD → zd
open Go Go.Sx
theorem qfw {α:Type} (l:List α) (i j:Nat) (x d:α):(l.set i x).getD j d=if j=i∧i<l.length then x else l.getD j d:=by
 rw [zd,zd,List.getElem?_set]
 by_cases h:i=j
 ·subst h
  by_cases h2:i<l.length
  ·rw [if_pos rfl,if_pos h2,if_pos ⟨rfl,h2⟩];rfl
  ·rw [if_pos rfl,if_neg h2,if_neg (fun h=>h2 h.2),List.getElem?_eq_none (by omega)]
 ·rw [if_neg h,if_neg (fun h2=>h h2.1.symm)]
section
variable {m:Md} {s:Stt}
theorem jrl (hf:ql m s=true) (p:Nat) (x:Int) (hx:0≤x∧x<(m.procs.getD p pr0).places):ql m { s with at_:=s.at_.set p x }=true:=by
 obtain ⟨h0,hA,hV,hC⟩:=(jh m s).1 hf
 refine (jh m _).2 ⟨⟨by simpa using h0.1,h0.2.1,h0.2.2.1,h0.2.2.2⟩,fun i hi=>?_,hV,hC⟩
 have hi':i<s.at_.length:=by simpa using hi
 have:=hA i hi'
 unfold qni at *
 simp only
 rw [qfw]
 split
 ·rename_i h;rw [h.1];exact hx
 ·exact this
theorem jdx (hf:ql m s=true) (k:Nat) (x:Int) (hx:trim x (m.vars.getD k vr0).width=x):ql m { s with vars:=s.vars.set k x }=true:=by
 obtain ⟨h0,hA,hV,hC⟩:=(jh m s).1 hf
 refine (jh m _).2 ⟨⟨h0.1,by simpa using h0.2.1,h0.2.2.1,h0.2.2.2⟩,hA,fun i hi=>?_,hC⟩
 have hi':i<s.vars.length:=by simpa using hi
 have:=hV i hi'
 unfold qlm at *
 simp only
 rw [qfw]
 split
 ·rename_i h;rw [h.1];exact hx
 ·exact this
theorem qrn (hf:ql m s=true) (k:Nat) (c:List Int) (hc:(c.length:Int)≤(m.chans.getD k ch0).room) (hx:∀ x∈c,trim x (m.chans.getD k ch0).width=x):ql m { s with chans:=s.chans.set k c }=true:=by
 obtain ⟨h0,hA,hV,hC⟩:=(jh m s).1 hf
 refine (jh m _).2 ⟨⟨h0.1,h0.2.1,by simpa using h0.2.2.1,h0.2.2.2⟩,hA,hV,fun i hi=>?_⟩
 have hi':i<s.chans.length:=by simpa using hi
 have:=hC i hi'
 unfold qip qjz at *
 simp only
 rw [qfw]
 split
 ·rename_i h;rw [h.1];exact ⟨hc,fun q hq=>hx _ (qh _ _ _ hq)⟩
 ·exact this
theorem qlw (hf:ql m s=true) (h:Int) (hh:-1≤h∧h<m.procs.length):ql m { s with holder:=h }=true:=by
 obtain ⟨h0,hA,hV,hC⟩:=(jh m s).1 hf
 exact (jh m _).2 ⟨⟨h0.1,h0.2.1,h0.2.2.1,hh⟩,hA,hV,hC⟩
theorem qol (hf:ql m s=true) (k:Nat):∀ x∈s.chans.getD k [],trim x (m.chans.getD k ch0).width=x:=by
 obtain ⟨h0,hA,hV,hC⟩:=(jh m s).1 hf
 intro x hx
 by_cases hk:k<s.chans.length
 ·obtain ⟨q,hq,rfl⟩:=List.mem_iff_getElem.1 hx
  have:=(hC k hk).2 q hq
  unfold qjz at this
  rw [zd (l:=s.chans.getD k []),List.getElem?_eq_getElem hq] at this
  exact this
 ·rw [zd,List.getElem?_eq_none (by omega)] at hx
  simp at hx
theorem qmi (hf:ql m s=true) {k:Nat} (hk:k<m.chans.length):((s.chans.getD k []).length:Int)≤(m.chans.getD k ch0).room:=by
 obtain ⟨h0,_,_,hC⟩:=(jh m s).1 hf
 exact (hC k (by rw [h0.2.2.1];exact hk)).1
theorem qck (hM:ModOk m) (hf:ql m s=true):SSz s:=by
 have h0:=((jh m s).1 hf).1
 have hz:=hM.sz
 refine ⟨by rw [h0.1];omega,by rw [h0.2.1];omega,by rw [h0.2.2.1];omega,fun c hc=>?_⟩
 obtain ⟨i,hi,rfl⟩:=List.mem_iff_getElem.1 hc
 have hi':i<m.chans.length:=by rw [← h0.2.2.1];exact hi
 have h1:=qmi hf hi'
 have h2:=hM.ok.chan _ (qh m.chans i ch0 hi')
 rw [zd,List.getElem?_eq_getElem hi] at h1
 simp only [Option.getD_some] at h1
 omega
def ji (m:Md) (s:Stt) (v:Mv):Bool:=
 if v.kind=0 then decide (v.chn=0∧(s.holder=-1∨s.holder=v.proc)) && (decide (0≤v.proc∧v.proc<m.procs.length∧0≤v.edge∧v.edge<(edgesOf m v.proc.toNat).length) && canB m s v.proc.toNat ((edgesOf m v.proc.toNat).getD v.edge.toNat ed0))
 else if v.kind=1∨v.kind=2 then decide (s.holder=-1∧v.proc=0∧v.edge=0∧0≤v.chn∧v.chn<m.chans.length) && (if v.kind=1 then qir m s v.chn.toNat else qhl m s v.chn.toNat)
 else false
theorem mem_edgeMoves {p:Nat} {v:Mv}:v∈qiq m s p↔v.kind=0∧v.proc=p∧v.chn=0∧(0≤v.edge∧v.edge<(edgesOf m p).length)∧canB m s p ((edgesOf m p).getD v.edge.toNat ed0)=true:=by
 unfold qiq
 simp only [List.mem_map,List.mem_filter,List.mem_range]
 constructor
 ·rintro ⟨i,⟨h1,h2⟩,rfl⟩
  exact ⟨rfl,rfl,rfl,⟨Int.natCast_nonneg _,by simp only;omega⟩,h2⟩
 ·rintro ⟨h1,h2,h3,⟨h4,h5⟩,h6⟩
  refine ⟨v.edge.toNat,⟨by omega,h6⟩,?_⟩
  cases v with
  | mk k p' e c=>simp only at *;subst h1 h2 h3;rw [Int.toNat_of_nonneg h4]
theorem mem_chanMoves {c:Nat} {v:Mv}:v∈qhm m s c↔(v.proc=0∧v.edge=0∧v.chn=c)∧(v.kind=1∧qir m s c=true∨v.kind=2∧qhl m s c=true):=by
 unfold qhm
 rw [List.mem_append]
 constructor
 ·rintro (h|h)
  ·split at h
   ·rw [List.mem_singleton] at h;subst h;exact ⟨⟨rfl,rfl,rfl⟩,.inl ⟨rfl,by assumption⟩⟩
   ·simp at h
  ·split at h
   ·rw [List.mem_singleton] at h;subst h;exact ⟨⟨rfl,rfl,rfl⟩,.inr ⟨rfl,by assumption⟩⟩
   ·simp at h
 ·rintro ⟨⟨h1,h2,h3⟩,h⟩
  cases v with
  | mk k p' e c'=>
   simp only at *
   subst h1 h2 h3
   rcases h with ⟨rfl,h⟩|⟨rfl,h⟩
   ·left;rw [if_pos h];simp
   ·right;rw [if_pos h];simp
theorem jrm {v:Mv}:v∈qhn m s↔ji m s v=true:=by
 unfold qhn
 rw [List.mem_append,List.mem_flatMap]
 unfold ji
 constructor
 ·rintro (⟨p,hp,h⟩|h)
  ·rw [List.mem_range] at hp
   split at h
   ·simp at h
   ·rename_i hh
    obtain ⟨h1,h2,h3,h4,h5⟩:=mem_edgeMoves.1 h
    rw [if_pos h1,h2,Int.toNat_natCast,h5,decide_eq_true ⟨h3,by omega⟩,decide_eq_true ⟨Int.natCast_nonneg _,by omega,h4⟩];rfl
  ·split at h
   ·rename_i hh
    rw [List.mem_flatMap] at h
    obtain ⟨c,hc,h⟩:=h
    rw [List.mem_range] at hc
    obtain ⟨⟨h1,h2,h3⟩,h4⟩:=mem_chanMoves.1 h
    rw [if_neg (by omega),if_pos (by omega),h3,Int.toNat_natCast,decide_eq_true ⟨hh,h1,h2,Int.natCast_nonneg _,by omega⟩,Bool.true_and]
    rcases h4 with ⟨h4,h5⟩|⟨h4,h5⟩
    ·rw [if_pos h4];exact h5
    ·rw [if_neg (by omega)];exact h5
   ·simp at h
 ·intro h
  split at h
  ·rename_i h1
   rw [Bool.and_eq_true,Bool.and_eq_true] at h
   obtain ⟨h2,h3,h4⟩:=h
   have h2:=of_decide_eq_true h2
   have h3:=of_decide_eq_true h3
   refine .inl ⟨v.proc.toNat,List.mem_range.2 (by omega),?_⟩
   rw [if_neg (by omega)]
   exact mem_edgeMoves.2 ⟨h1,by omega,h2.1,h3.2.2,h4⟩
  ·split at h
   ·rename_i h0 h1
    rw [Bool.and_eq_true] at h
    obtain ⟨h2,h3⟩:=h
    have h2:=of_decide_eq_true h2
    right
    rw [if_pos h2.1,List.mem_flatMap]
    refine ⟨v.chn.toNat,List.mem_range.2 (by omega),mem_chanMoves.2 ⟨⟨h2.2.1,h2.2.2.1,by omega⟩,?_⟩⟩
    split at h3
    ·exact .inl ⟨by assumption,h3⟩
    ·exact .inr ⟨by omega,h3⟩
   ·cases h
theorem edOk (hM:ModOk m) {p:Nat} (hp:p<m.procs.length) {i:Nat} (hi:i<(edgesOf m p).length):EdOk m.tree.length m.vars.length m.chans.length (m.procs.getD p pr0).places ((edgesOf m p).getD i ed0):=
 (hM.pr _ (qh _ _ _ hp)).ed _ (qh _ _ _ hi)
theorem qom (hM:ModOk m) (hf:ql m s=true) {p:Nat} {e:Ed} (hto:0≤e.to∧e.to<(m.procs.getD p pr0).places) (hcn:e.act=2→qlen s e.chn<room m e.chn):ql m (qm m s p e)=true:=by
 have h0:=((jh m s).1 hf).1
 have ha:=qlw (jrl hf p e.to hto) (-1) ⟨Int.le_refl _,by omega⟩
 unfold qm
 simp only
 split
 ·exact jdx ha _ _ (quj _ _)
 split
 ·rename_i h2
  have:=hcn h2
  unfold qlen room at this
  refine qrn ha _ _ (by simp only [List.length_append,List.length_singleton];omega) (fun x hx=>?_)
  rw [List.mem_append,List.mem_singleton] at hx
  rcases hx with hx|rfl
  ·exact qol hf _ x hx
  ·exact quj _ _
 split
 ·have hb:=jdx ha e.var.toNat (trim ((s.chans.getD e.chn.toNat []).getD 0 0) (m.vars.getD e.var.toNat vr0).width) (quj _ _)
  refine qrn hb _ _ ?_ (fun x hx=>qol hf _ x (List.mem_of_mem_drop hx))
  rw [List.length_drop]
  by_cases hk:e.chn.toNat<m.chans.length
  ·have:=qmi hf hk;omega
  ·rw [zd (l:=s.chans),List.getElem?_eq_none (by omega)]
   rw [zd,List.getElem?_eq_none (by omega)]
   simp [ch0]
 ·exact ha
theorem qon {p:Nat} {e:Ed} (h:canB m s p e=true) (h2:e.act=2):qlen s e.chn<room m e.chn:=by
 unfold canB at h
 rw [if_pos h2,Bool.and_eq_true] at h
 exact of_decide_eq_true h.2
theorem jdy (hM:ModOk m) (hf:ql m s=true) {v:Mv} (hv:ji m s v=true):ql m (qx m s v)=true:=by
 have h0:=((jh m s).1 hf).1
 unfold ji at hv
 unfold qx
 split at hv
 ·rename_i hk
  rw [Bool.and_eq_true,Bool.and_eq_true] at hv
  obtain ⟨h2,h3,h4⟩:=hv
  have h3:=of_decide_eq_true h3
  rw [if_neg (by omega),if_neg (by omega)]
  have hp:v.proc.toNat<m.procs.length:=by omega
  have he:=edOk hM hp (i:=v.edge.toNat) (by omega)
  unfold qce
  refine qlw (qom hM hf he.to (qon h4)) _ ?_
  split <;> omega
 ·split at hv
  ·rw [Bool.and_eq_true] at hv
   obtain ⟨h2,h3⟩:=hv
   have h2:=of_decide_eq_true h2
   have hc:v.chn.toNat<m.chans.length:=by omega
   have hl:=qmi hf hc
   split
   ·refine qlw (s:={ s with chans:=s.chans.set v.chn.toNat ((s.chans.getD v.chn.toNat []).drop 1) }) (qrn hf _ _ (by rw [List.length_drop];omega) (fun x hx=>qol hf _ x (List.mem_of_mem_drop hx))) (-1) ⟨Int.le_refl _,by omega⟩
   ·rename_i h1
    rw [if_neg h1] at h3
    rw [if_pos (by omega)]
    unfold qhl qlen room at h3
    simp only [Bool.and_eq_true,decide_eq_true_eq,Int.toNat_natCast] at h3
    refine qlw (s:={ s with chans:=s.chans.set v.chn.toNat (s.chans.getD v.chn.toNat []++[(s.chans.getD v.chn.toNat []).getD 0 0]) }) (qrn hf _ _ (by simp only [List.length_append,List.length_singleton];omega) (fun x hx=>?_)) (-1) ⟨Int.le_refl _,by omega⟩
    rw [List.mem_append,List.mem_singleton] at hx
    rcases hx with hx|rfl
    ·exact qol hf _ x hx
    ·exact qol hf _ _ (qh _ _ _ (by omega))
  ·cases hv
def st0z:Stt:=⟨[],[],[],0⟩
def doB (m:Md) (s:Stt) (v:Mv):Bool:=ql m s && ji m s v
def qro (m:Md) (s:Stt) (v:Mv):Stt:=if doB m s v=true then qx m s v else st0z
end
structure Ev where
 kind:Int:=0
 mv:Int:=0
 prc:Int:=0
 ch:Int:=0
 msg:Int:=0
 frm:Int:=0
deriving DecidableEq
def Ev.cells (e:Ev):List AV:=[iv e.kind,iv e.mv,iv e.prc,iv e.ch,iv e.msg,iv e.frm]
def Ev.av (e:Ev):AV:=.agg e.cells
def evsV (l:List Ev):AV:=slcL Ev.cells {} 6 l
def jdz (l:List Stt):AV:=slcL Stt.cells st0z 4 l
def stN (m:Md) (l:List Mv):Nat→Stt
 | 0=>qz m
 | i+1=>qx m (stN m l i) (l.getD i {})
def okN (m:Md) (l:List Mv) (j:Nat):Bool:=ji m (stN m l j) (l.getD j {})
def nF (m:Md) (l:List Mv):Nat:=((List.range l.length).takeWhile (okN m l)).length
theorem jea (p:Nat→Bool):∀ (n i a:Nat),i≤n→(∀ j,j<i→p (a+j)=true)→(i=n∨p (a+i)=false)→((List.range' a n).takeWhile p).length=i
 | 0,i,a,hi,_,_=>by
  obtain rfl:i=0:=by omega
  rfl
 | n+1,0,a,hi,_,h2=>by
  rw [List.range'_succ,List.takeWhile_cons]
  rcases h2 with h2|h2
  ·omega
  ·rw [Nat.add_zero] at h2;rw [h2];rfl
 | n+1,i+1,a,hi,h1,h2=>by
  rw [List.range'_succ,List.takeWhile_cons]
  have h0:=h1 0 (by omega)
  rw [Nat.add_zero] at h0
  rw [h0,if_pos rfl,List.length_cons]
  congr 1
  refine jea p n i (a+1) (by omega) (fun j hj=>?_) ?_
  ·have:=h1 (j+1) (by omega)
   rw [show a+1+j=a+(j+1) by omega];exact this
  ·rcases h2 with h2|h2
   ·exact .inl (by omega)
   ·right;rw [show a+1+i=a+(i+1) by omega];exact h2
theorem qlx {m:Md} {l:List Mv} {i:Nat} (hi:i≤l.length) (h1:∀ j,j<i→okN m l j=true) (h2:i=l.length∨okN m l i=false):nF m l=i:=by
 unfold nF
 rw [List.range_eq_range']
 exact jea (okN m l) l.length i 0 hi (fun j hj=>by rw [Nat.zero_add];exact h1 j hj) (by rw [Nat.zero_add];exact h2)
theorem jeb (m:Md) (l:List Mv):nF m l≤l.length∧(∀ j,j<nF m l→okN m l j=true)∧(nF m l=l.length∨okN m l (nF m l)=false):=by
 have key:∀ n,n≤l.length→(∃ i,i≤n∧(∀ j,j<i→okN m l j=true)∧(i=n∨okN m l i=false)):=by
  intro n
  induction n with
  | zero=>exact fun _=>⟨0,Nat.le_refl _,fun j hj=>absurd hj (Nat.not_lt_zero j),.inl rfl⟩
  | succ n ih=>
   intro hn
   obtain ⟨i,h1,h2,h3⟩:=ih (by omega)
   rcases h3 with rfl|h3
   ·cases h:okN m l i with
    | true=>exact ⟨i+1,Nat.le_refl _,fun j hj=>by rcases Nat.lt_succ_iff_lt_or_eq.1 hj with h'|rfl;exact h2 j h';exact h,.inl rfl⟩
    | false=>exact ⟨i,by omega,h2,.inr h⟩
   ·exact ⟨i,by omega,h2,.inr h3⟩
 obtain ⟨i,h1,h2,h3⟩:=key l.length (Nat.le_refl _)
 rw [qlx h1 h2 h3]
 exact ⟨h1,h2,h3⟩
def qhy (m:Md) (l:List Mv):List Stt:=(List.range (nF m l+1)).map (stN m l)
theorem qjb {m:Md} (hM:ModOk m) (h0:ql m (qz m)=true) {l:List Mv}:∀ {i:Nat},(∀ j,j<i→okN m l j=true)→ql m (stN m l i)=true
 | 0,_=>h0
 | i+1,h=>jdy hM (qjb hM h0 (i:=i) fun j hj=>h j (by omega)) (h i (by omega))
def qdh (c:Int) (e:Ev):Bool:=decide (e.ch=c∧(e.kind=0∨e.kind=3))
def qeo (c:Int) (e:Ev):Bool:=decide (e.ch=c∧(e.kind=1∨e.kind=2))
def qaa (E:List Ev) (c:Int):List Nat:=(List.range E.length).filter fun j=>qdh c (E.getD j {})
def jf (E:List Ev) (c:Int):Nat:=E.countP (qeo c)
def ja (E:List Ev) (c:Int):List Nat:=(qaa E c).drop (jf E c)
def qab (E:List Ev) (c:Int):Int:=match (qaa E c)[jf E c]? with|some j=>j|none=>-1
theorem jec {α:Type} (l l':List α) (d:α) {j:Nat} (h:j<l.length):(l++l').getD j d=l.getD j d:=by
 rw [zd,zd,List.getElem?_append_left h]
theorem qrp (E:List Ev) (e:Ev) (c:Int):qaa (E++[e]) c=qaa E c++(if qdh c e=true then [E.length] else []):=by
 unfold qaa
 rw [List.length_append,List.length_singleton,List.range_succ,List.filter_append]
 congr 1
 ·refine List.filter_congr fun j hj=>?_
  rw [jec _ _ _ (List.mem_range.1 hj)]
 ·have:(E++[e]).getD E.length {}=e:=by
   rw [zd,List.getElem?_append_right (Nat.le_refl _),Nat.sub_self];rfl
  rw [List.filter_cons,this]
  rfl
theorem qrq (E:List Ev) (e:Ev) (c:Int):jf (E++[e]) c=jf E c+(if qeo c e=true then 1 else 0):=by
 unfold jf
 rw [List.countP_append,List.countP_cons,List.countP_nil,Nat.zero_add]
theorem qwg {E:List Ev} {c:Int} (h:0<(ja E c).length):qab E c=((ja E c).getD 0 0:Nat):=by
 unfold ja at h ⊢
 unfold qab
 rw [List.length_drop] at h
 rw [List.getElem?_eq_getElem (by omega),zd,List.getElem?_drop,Nat.add_zero,List.getElem?_eq_getElem (by omega)]
 rfl
end Go.St
end
section
namespace Go.St
open Go Go.Sx
def qau (s:Stt) (c:Int):Int:=(s.chans.getD c.toNat []).getD 0 0
def qed (s:Stt) (c:Int):Int:=(s.chans.getD c.toNat []).getD ((s.chans.getD c.toNat []).length - 1) 0
def edOf (m:Md) (v:Mv):Ed:=(edgesOf m v.proc.toNat).getD v.edge.toNat ed0
def evOf (m:Md) (s t:Stt) (i:Nat) (v:Mv) (E:List Ev):Option Ev:=
 if v.kind=1 then some ⟨2,i,-1,v.chn,qau s v.chn,qab E v.chn⟩
 else if v.kind=2 then some ⟨3,i,-1,v.chn,qau s v.chn,qab E v.chn⟩
 else if (edOf m v).act=2 then some ⟨0,i,v.proc,(edOf m v).chn,qed t (edOf m v).chn,-1⟩
 else if (edOf m v).act=3 then some ⟨1,i,v.proc,(edOf m v).chn,qau s (edOf m v).chn,qab E (edOf m v).chn⟩
 else none
def evN (m:Md) (l:List Mv):Nat→List Ev
 | 0=>[]
 | i+1=>evN m l i++(evOf m (stN m l i) (stN m l (i+1)) i (l.getD i {}) (evN m l i)).toList
def qbq (m:Md) (l:List Mv):List Ev:=evN m l (nF m l)
theorem qoo (m:Md) (l:List Mv):∀ i,(evN m l i).length≤i
 | 0=>Nat.le_refl _
 | i+1=>by
  have:=qoo m l i
  unfold evN
  rw [List.length_append]
  have:(evOf m (stN m l i) (stN m l (i+1)) i (l.getD i {}) (evN m l i)).toList.length≤1:=by
   cases evOf m (stN m l i) (stN m l (i+1)) i (l.getD i {}) (evN m l i) <;> simp
  omega
def qdi (m:Md) (s:Stt) (E:List Ev):Prop:=∀ c:Nat,c<m.chans.length→jf E c≤(qaa E c).length∧(ja E c).length=(s.chans.getD c []).length
theorem qwh {E:List Ev} {e:Ev} {c:Int} (hp:qdh c e=true) (hg:jf E c≤(qaa E c).length):jf (E++[e]) c=jf E c∧jf (E++[e]) c≤(qaa (E++[e]) c).length∧ja (E++[e]) c=ja E c++[E.length]:=by
 have ht:qeo c e=false:=by
  unfold qdh at hp
  unfold qeo
  have:=of_decide_eq_true hp
  exact decide_eq_false (by omega)
 have h1:jf (E++[e]) c=jf E c:=by rw [qrq,ht];rfl
 have h2:qaa (E++[e]) c=qaa E c++[E.length]:=by rw [qrp,if_pos hp]
 refine ⟨h1,by rw [h1,h2,List.length_append];omega,?_⟩
 unfold ja
 rw [h1,h2,List.drop_append_of_le_length hg]
theorem jed {E:List Ev} {e:Ev} {c:Int} (ht:qeo c e=true) (hg:jf E c≤(qaa E c).length) (hw:0<(ja E c).length):jf (E++[e]) c=jf E c+1∧jf (E++[e]) c≤(qaa (E++[e]) c).length∧ja (E++[e]) c=(ja E c).drop 1:=by
 have hp:qdh c e=false:=by
  unfold qeo at ht
  unfold qdh
  have:=of_decide_eq_true ht
  exact decide_eq_false (by omega)
 have h1:jf (E++[e]) c=jf E c+1:=by rw [qrq,ht];rfl
 have h2:qaa (E++[e]) c=qaa E c:=by rw [qrp,hp];simp
 unfold ja at hw
 rw [List.length_drop] at hw
 refine ⟨h1,by rw [h1,h2];omega,?_⟩
 unfold ja
 rw [h1,h2,List.drop_drop]
theorem qgw {E:List Ev} {e:Ev} {c:Int} (h:e.ch≠c):jf (E++[e]) c=jf E c∧qaa (E++[e]) c=qaa E c∧ja (E++[e]) c=ja E c:=by
 have hp:qdh c e=false:=decide_eq_false (fun k=>h k.1)
 have ht:qeo c e=false:=decide_eq_false (fun k=>h k.1)
 have h1:jf (E++[e]) c=jf E c:=by rw [qrq,ht];rfl
 have h2:qaa (E++[e]) c=qaa E c:=by rw [qrp,hp];simp
 exact ⟨h1,h2,by unfold ja;rw [h1,h2]⟩
end Go.St
end
