/- Some texts of the library, one behind the other. -/
import Derived.Test.YtikahnkkfkoglaaGreatDoorY115
import Derived.Test.YtikahnkkfkoglaaGreatDoorY17
import Derived.Test.YtikahnkkfkoglaaGreatDoorY116
import Derived.Test.YtikahnkkfkoglaaGreatDoorY114
import Derived.Test.YtikahnkkfkoglaaGreatDoorY12
set_option linter.unusedSimpArgs false
set_option linter.unusedVariables false
section
namespace Go.Proofs.YtikahnkkfkoglaaGreatDoor
open List renaming getD_eq_getElem?_getD → zd
open Go Go.Sx Go.RowKit Go.St
set_option maxRecDepth 100000
set_option maxHeartbeats 4000000
def qod (r b:Nat) (m:Md) (most:Int) (L:List Fnd):SO:=.box 71 (m.cells++[iv most,.own r 0 0 L.length,.mapv b])
theorem qvw (m:Md) (hM:ModOk m) (hf:fitsB m (jj m)=true) (most:Int) :
  Trip Tryz.prog 20 [m.av,iv most] [] (.ptr 2 0) [(2,qod 3 1 m (qch most) (qcc m)),(1,kMap (qcc m)),(3,kRow (qcc m))] 4:=by
 have hk:=qvp m hM (qch most) [] (by decide) ⟨jj m,-1,{},0⟩ hf
 have hms:=qru most
 have e:addF (qch most) [] ⟨jj m,-1,{},0⟩=(qcc m,true):=by
  unfold addF qlp
  rw [za (show ¬ qgu (qey []) _=true by show ¬ false=true;decide),za (by simp only [zam];omega)]
  rfl
 rw [e] at hk
 unfold qod
 refine zL {} 300 Tryz.func20 (fun c0 rdb mpb=>?_)
 (repeat' ((conv=>whnf);first|refine zA ?_|refine zO ?_|refine Ob.auto ?_|refine zI ?_|refine zC 300 (qlk m hM.ok) ?_|refine zG 300 (fun hg=>qlk m hM.ok) ?_|(refine CallY.con (qlk m hM.ok) (by rfl) leA ?_)|(refine CallZ.con (fun hg=>qlk m hM.ok) jn (by rfl) ?_)|(refine ql (fun _=>rfl) 300 (qlk m hM.ok) qc (by (repeat' (first|exact trivial|exact Le.refl _|(refine And.intro ?_ ?_))) <;> fail) (by rfl) (by kernel_rfl) ?_)|(refine qw (fun _=>rfl) 300 (fun hg=>qlk m hM.ok) (fun hg=>qc) (fun hg=>(by (repeat' (first|exact trivial|exact Le.refl _|exact Le.cnd hg|(refine And.intro ?_ ?_))) <;> fail)) (by rfl) (by kernel_rfl) ?_)|refine zD 300 ?_|(apply zB <;> intro hb <;> (try simp [-zd] at hb) <;> try (exfalso;omega))|refine Ob.intro ?_ ?_))
 refine jbq 2 8 67 10 rfl rfl ?_
 ((conv=>whnf);refine zT 300 [2,1,3] (hk) (⟨⟨rfl,Le.refl _,Le.refl _,Le.refl _,Le.refl _,Le.refl _,Le.refl _,Le.refl _,Le.refl _,Le.refl _,Le.refl _,trivial⟩,⟨rfl,Le.refl _,trivial⟩,⟨⟨rfl,rfl,rfl⟩,rfl,rfl,fun k hk=>absurd hk (zj k)⟩,trivial⟩) ?_)
 (repeat' ((conv=>whnf);first|refine zA ?_|refine zO ?_|refine Ob.auto ?_|refine zD 300 ?_|(apply zB <;> intro hb <;> (try simp [-zd] at hb) <;> try (exfalso;omega))|refine Ob.intro ?_ ?_))
 exact ⟨Le.refl _,qa⟩
theorem qvx (m:Md) (hM:ModOk m) (s:Stt) (hf:fitsB m s=true) (b:Bool) :
  Trip Tryz.prog 21 [s.av,.ptr 0 0,.ptr 1 0] [.box 29 m.cells,.box 4 [.bool b]] (.bool (badB m s)) [(0,.box 29 m.cells),(1,.box 4 [.bool (badB m s)])] 2:=by
 have hb:=jpl m hM s (qex hM hf)
 rw [hf,zas] at hb
 refine zM {} 300 Tryz.func21 (fun c0 rdb mpb=>?_)
 (repeat' ((conv=>whnf);first|refine zA ?_|refine zO ?_|refine Ob.auto ?_|refine zC 300 (hb) ?_|refine zG 300 (fun hg=>hb) ?_|(refine CallY.con (hb) (by rfl) leA ?_)|(refine CallZ.con (fun hg=>hb) jn (by rfl) ?_)|(refine ql (fun _=>rfl) 300 (hb) qc (by (repeat' (first|exact trivial|exact Le.refl _|(refine And.intro ?_ ?_))) <;> fail) (by rfl) (by kernel_rfl) ?_)|(refine qw (fun _=>rfl) 300 (fun hg=>hb) (fun hg=>qc) (fun hg=>(by (repeat' (first|exact trivial|exact Le.refl _|exact Le.cnd hg|(refine And.intro ?_ ?_))) <;> fail)) (by rfl) (by kernel_rfl) ?_)|refine zD 300 ?_|(apply zB <;> intro hb <;> (try simp [-zd] at hb) <;> try (exfalso;omega))|refine Ob.intro ?_ ?_))
 exact ⟨Le.refl _,qa⟩
theorem jpm (s:Stt):Con Tryz.prog 34 [s.av] (.bool false):=by
 refine zK {} 300 Tryz.func34 (fun c0 rdb=>?_)
 (repeat' ((conv=>whnf);first|refine zA ?_|refine zO ?_|refine Ob.auto ?_|refine zD 300 ?_|(apply zB <;> intro hb <;> (try simp [-zd] at hb) <;> try (exfalso;omega))|refine Ob.intro ?_ ?_))
 exact Le.refl _
end Go.Proofs.YtikahnkkfkoglaaGreatDoor
end
section
namespace Go.Proofs.YtikahnkkfkoglaaGreatDoor
open Go Go.Sx Go.St
theorem jct {m:Md} (hM:ModOk m) (s:Stt):(jb m s).length≤1000000:=by
 have h1:=qvs m hM s m.procs.length (zi _)
 have h2:=qvr m s m.chans.length
 have hz:=hM.sz
 have e:jb m s=js m s m.procs.length++(if s.holder=-1 then qcr m s m.chans.length else []):=rfl
 rw [e,zg]
 split
 ·omega
 ·simp;omega
end Go.Proofs.YtikahnkkfkoglaaGreatDoor
end
section
namespace Go.Proofs.YtikahnkkfkoglaaGreatDoor
open Go Go.Sx Go.RowKit Go.St
set_option maxRecDepth 100000
set_option maxHeartbeats 4000000
theorem qvy {k i:Nat} (h:k≠i):(k<i+1)=(k<i):=propext ⟨fun _=>by omega,fun _=>by omega⟩
theorem jcu {f g:Nat→List AV} {m q:Nat} (hq:q<m):appF 0 f m g q=g q:=by
 unfold appF
 rw [za (by omega),zb (by omega),zah]
theorem jpn (l:List Int) (hl:l.length≤1000000):Con Tryz.prog 120 [ints l] (ints l):=by
 refine zK {} 300 Tryz.func120 (fun c0 rdb=>?_)
 (repeat' ((conv=>whnf);first|refine Ob.auto ?_|(refine Ob.intro (by ((refine ⟨by omega,by omega,by omega,?_⟩;dsimp only;refine zbm (zau (?_:_≤(4000001:Int)) (zal _)) (by decide +kernel);omega))) ?_)|fail))
 exact Le.slc (by simp) (fun q hq=>jcu (by simpa using hq))
theorem qoe (l:List Int) (hl:l.length≤1000000):Trip Tryz.prog 120 [ints l] [] (.own 0 0 0 l.length) [(0,.row [] 3 1 0 l.length (encL (fun n=>[iv n]) 0 l))] 1:=by
 refine zL {} 300 Tryz.func120 (fun c0 rdb mpb=>?_)
 (repeat' ((conv=>whnf);first|refine Ob.auto ?_|(refine Ob.intro (by ((refine ⟨by omega,by omega,by omega,?_⟩;dsimp only;refine zbm (zau (?_:_≤(4000001:Int)) (zal _)) (by decide +kernel);omega))) ?_)|fail))
 refine ⟨Le.of_eq (by simp),⟨⟨rfl,rfl,by simp⟩,rfl,by simp,fun q hq=>LeL.of_eq (jcu (by simpa using hq))⟩,trivial⟩
theorem jcv (s:Stt) (hs:SSz s):Trip Tryz.prog 85 [s.av] [] (.agg [.own 4 0 0 s.at_.length,.own 8 0 0 s.vars.length,.own 13 0 0 s.chans.length,iv s.holder])
  [(4,.row [] 3 1 0 s.at_.length (encL (fun n=>[iv n]) 0 s.at_)),(8,.row [] 3 1 0 s.vars.length (encL (fun n=>[iv n]) 0 s.vars)),(13,.row [] 27 1 0 s.chans.length (encL (fun c=>[ints c]) [] s.chans))] 14:=by
 have ha:=hs.a
 have hv:=hs.v
 have hc:=hs.c
 have hl:=hs.l
 refine zL {} 300 Tryz.func85 (fun c0 rdb mpb=>?_)
 ((conv=>whnf);refine qbl (fun _=>rfl) (by kernel_rfl) 300 [.new [ints s.at_] (.own 0 0 0 s.at_.length) [(0,.row [] 3 1 0 s.at_.length (encL (fun n=>[iv n]) 0 s.at_))] 1,.new [ints s.vars] (.own 0 0 0 s.vars.length) [(0,.row [] 3 1 0 s.vars.length (encL (fun n=>[iv n]) 0 s.vars))] 1] (by kernel_rfl) ?_)
 (repeat' ((conv=>whnf);first|refine Ob.auto ?_|(refine Ob.intro (by (first|(refine ⟨by omega,by omega,by omega,?_⟩;dsimp only;refine zbm (zau (?_:_≤(4000001:Int)) (zal _)) (by decide +kernel);omega)|exact ⟨qoe s.at_ hs.a,by rfl,LeL.refl _,by kernel_rfl,by kernel_rfl,by exact qb rfl⟩|exact ⟨qoe s.vars hs.v,by rfl,LeL.refl _,by kernel_rfl,by kernel_rfl,by exact qb rfl⟩)) ?_)|fail))
 ((conv=>whnf);refine qo (fun _=>rfl) 300 1 (fun i:Nat=>[(22,iv i)]) (fun i=>[(13,.row [] 27 1 0 s.chans.length (fun k=>[if k<i then ints (s.chans.getD k []) else .nils]))]) (fun i=>i≤s.chans.length) (fun i=>s.chans.length - i) (0) (by omega) qa ⟨qda (fun k _=>by rw [za (zj k)];rfl),trivial⟩ (fun _=>rfl) (by kernel_rfl) ?_;(conv=>whnf))
 intro i hi
 (repeat' ((conv=>whnf);first|refine Ob.auto ?_|(apply zB <;> intro hb <;> (try simp [-List.getD_eq_getElem?_getD] at hb) <;> try (exfalso;omega))))
 ·((conv=>whnf);refine qbl (fun _=>rfl) (by kernel_rfl) 300 [.con (ints (s.chans.getD i []))] (by kernel_rfl) ?_)
  (repeat' ((conv=>whnf);first|refine Ob.auto ?_|(refine Ob.intro (by (first|exact ⟨by omega,by omega⟩|exact ⟨_,jpn (s.chans.getD i []) (hl _ (qm _ _ _ (by omega))),by rfl,LeL.refl _⟩)) ?_)|fail))
  ((conv=>whnf);refine ⟨i+1,by omega,⟨qa,qa⟩,⟨qa,qa⟩,?_⟩;(first|omega|(dsimp only;omega)|skip))
 ·obtain rfl:i=s.chans.length:=by omega
  exact ⟨Le.refl _,⟨⟨rfl,rfl,rfl⟩,rfl,rfl,fun q hq=>LeL.refl _⟩,⟨⟨rfl,rfl,rfl⟩,rfl,rfl,fun q hq=>LeL.refl _⟩,qda (fun k hk=>by rw [zb (by simpa using hk)];rfl),trivial⟩
theorem jcw (s:Stt) (hs:SSz s):Trip Tryz.prog 85 [s.av] [] (.agg [.own 4 0 0 s.at_.length,.own 8 0 0 s.vars.length,.own 13 0 0 s.chans.length,iv s.holder])
  [(4,.row [] 3 1 0 s.at_.length (encL (fun n=>[iv n]) 0 s.at_)),(8,.row [] 3 1 0 s.vars.length (encL (fun n=>[iv n]) 0 s.vars)),(13,.row [19] 27 1 0 s.chans.length (fun k=>[.own 19 k 1 (s.chans.getD k []).length])),
   (19,.fam 3 1 s.chans.length (fun _=>1) (fun k=>(s.chans.getD k []).length) (fun k=>encL (fun n=>[iv n]) 0 (s.chans.getD k [])))] 20:=by
 have ha:=hs.a
 have hv:=hs.v
 have hc:=hs.c
 have hl:=hs.l
 refine zL {} 300 Tryz.func85 (fun c0 rdb mpb=>?_)
 ((conv=>whnf);refine qbl (fun _=>rfl) (by kernel_rfl) 300 [.new [ints s.at_] (.own 0 0 0 s.at_.length) [(0,.row [] 3 1 0 s.at_.length (encL (fun n=>[iv n]) 0 s.at_))] 1,.new [ints s.vars] (.own 0 0 0 s.vars.length) [(0,.row [] 3 1 0 s.vars.length (encL (fun n=>[iv n]) 0 s.vars))] 1] (by kernel_rfl) ?_)
 (repeat' ((conv=>whnf);first|refine Ob.auto ?_|(refine Ob.intro (by (first|(refine ⟨by omega,by omega,by omega,?_⟩;dsimp only;refine zbm (zau (?_:_≤(4000001:Int)) (zal _)) (by decide +kernel);omega)|exact ⟨qoe s.at_ hs.a,by rfl,LeL.refl _,by kernel_rfl,by kernel_rfl,by exact qb rfl⟩|exact ⟨qoe s.vars hs.v,by rfl,LeL.refl _,by kernel_rfl,by kernel_rfl,by exact qb rfl⟩)) ?_)|fail))
 refine jln 13 3 1 rfl (fun _ _=>rfl) ?_
 ((conv=>whnf);refine jny (fun _=>rfl) 300 1 (fun i:Nat=>[(22,iv i)]) (fun i=>[(13,.row [19] 27 1 0 s.chans.length (fun k=>[.own 19 k (if k<i then 1 else 0) (if k<i then (s.chans.getD k []).length else 0)])),(19,.fam 3 1 s.chans.length (fun k=>if k<i then 1 else 0) (fun k=>if k<i then (s.chans.getD k []).length else 0) (fun k=>encL (fun n=>[iv n]) 0 (s.chans.getD k [])))]) (fun i=>i≤s.chans.length) (fun i=>s.chans.length - i) (0) (by omega) qa ⟨qda (fun k _=>by rw [za (zj k),za (zj k)]),qjo (fun k _=>by rw [za (zj k)]) (fun k _=>by rw [za (zj k)]) (fun k j _ hj=>absurd hj (zj _)),trivial⟩ (fun _=>rfl) (by kernel_rfl) ?_;(conv=>whnf))
 intro i hi
 (repeat' ((conv=>whnf);first|refine Ob.auto ?_|(apply zB <;> intro hb <;> (try simp [-List.getD_eq_getElem?_getD] at hb) <;> try (exfalso;omega))))
 ·have hci:=hl _ (qm s.chans i [] (by omega))
  ((conv=>whnf);refine qbl (fun _=>rfl) (by kernel_rfl) 300 [.new [ints (s.chans.getD i [])] (.own 0 0 0 (s.chans.getD i []).length) [(0,.row [] 3 1 0 (s.chans.getD i []).length (encL (fun n=>[iv n]) 0 (s.chans.getD i [])))] 1] (by kernel_rfl) ?_)
  (repeat' ((conv=>whnf);first|refine Ob.auto ?_|(refine Ob.intro (by (first|exact ⟨by omega,by omega⟩|exact ⟨qoe _ hci,by rfl,LeL.refl _,by kernel_rfl,by kernel_rfl,by exact qb rfl⟩)) ?_)|fail))
  ((conv=>whnf);refine ⟨i+1,by omega,⟨_,Turn.absorb 13 19 24 i rfl rfl rfl (by omega) (by decide) (by exact zb rfl) (fun k _ hne=>⟨_,_,za hne⟩),⟨qa,⟨qda (fun k _=>?_),qjo (fun k _=>?_) (fun k _=>?_) (fun k j _ hj=>?_),trivial⟩⟩,⟨qa,qa⟩⟩,?_⟩;(first|omega|(dsimp only;omega)|skip))
  ·by_cases hki:k=i
   ·subst hki
    refine (zb rfl).trans ?_
    simp
   ·refine (za hki).trans ((za hki).trans ?_)
    simp only [qvy hki]
  ·unfold upd
   by_cases hki:k=i
   ·subst hki;simp
   ·rw [za hki];simp only [qvy hki]
  ·unfold upd
   by_cases hki:k=i
   ·subst hki;simp
   ·rw [za hki];simp only [qvy hki]
  ·unfold upd
   by_cases hki:k=i
   ·subst hki;rw [zb rfl]
   ·rw [za hki]
  ·omega
 ·obtain rfl:i=s.chans.length:=by omega
  exact ⟨Le.refl _,⟨⟨rfl,rfl,rfl⟩,rfl,rfl,fun q hq=>LeL.refl _⟩,⟨⟨rfl,rfl,rfl⟩,rfl,rfl,fun q hq=>LeL.refl _⟩,qda (fun k hk=>by rw [zb hk,zb hk]),qjo (fun k hk=>by rw [zb hk]) (fun k hk=>by rw [zb hk]) (fun _ _ _ _=>rfl),trivial⟩
end Go.Proofs.YtikahnkkfkoglaaGreatDoor
end
section
namespace Go.Proofs.YtikahnkkfkoglaaGreatDoor
open List renaming getD_eq_getElem?_getD → zd
open Go Go.Sx Go.RowKit Go.St
set_option maxRecDepth 100000
set_option maxHeartbeats 4000000
def rowI (l:List Int):SO:=.row [] 3 1 0 l.length (encL (fun n=>[iv n]) 0 l)
def boxS (s:Stt):SO:=.box 40 [.own 1 0 0 s.at_.length,.own 2 0 0 s.vars.length,.own 3 0 0 s.chans.length,iv s.holder]
def rowC (l:List (List Int)):SO:=.row [] 27 1 0 l.length (encL (fun c=>[ints c]) [] l)
theorem jcx (m:Md) (p:Int) (s:Stt) (h k:Int):val m p { s with holder:=h } k=val m p s k:=by
 have key:∀ (n:Nat) (k:Int),valN m p { s with holder:=h } n k=valN m p s n k:=by
  intro n
  induction n with
  | zero=>intro k;rfl
  | succ n ih=>intro k;unfold valN;simp only [ih]
 exact key _ k
theorem jpo {m:Md} {s:Stt} {p:Nat} {e:Ed} (h:canB m s p e=true) (h3:e.act=3):0<(s.chans.getD e.chn.toNat []).length:=by
 unfold canB qlen at h
 rw [za (by omega),zb h3,zf] at h
 have:=zm h.2
 omega
theorem qkd {α:Type} (enc:α→List AV) (d:α) (l:List α) (i:Nat) (x:α) (hi:i<l.length) (j:Nat):(if j=i then enc x else encL enc d l j)=encL enc d (l.set i x) j:=by
 unfold encL
 rw [qln]
 by_cases h:j=i
 ·rw [zb h,zb ⟨h,hi⟩]
 ·rw [za h,za (fun h'=>h h'.1)]
theorem jpp (m:Md) (hM:ModOk m) (s:Stt) (hf:fitsB m s=true) (hh:s.holder=-1) (p:Nat) (hp:p<m.procs.length) (e:Ed) (he:EdOk m.tree.length m.vars.length m.chans.length (m.procs.getD p pr0).places e) (hc:canB m s p e=true) (h2:e.act≠2) :
  Trip Tryz.prog 86 [m.av,.ptr 0 0,iv p,.agg e.cells] [boxS s,rowI s.at_,rowI s.vars,rowC s.chans] (.tup [])
   [(0,.box 40 (qgi m s p e).cells)] 4:=by
 have hs:=qex hM hf
 have h0:=((qao m s).1 hf).1
 have hsv:=quq m hM.ok p s hs e.expr
 have hex:=he.ex
 have hvr:=he.var
 have hch:=he.chn
 have hto:=he.to
 have hat:p<s.at_.length:=by omega
 have hvl:=h0.2.1
 have hcl:=h0.2.2.1
 have hq:=jpo hc
 have hT:=qvl hM hf (p:=p) hto (qvm hc)
 have hTs:=qex hM hT
 have hmv:=jcq m hM.ok (qcb m s p e) hT hTs p hp (pl:=(m.procs.getD p pr0).places) (fun e he=>(hM.pr _ (qm m.procs p pr0 hp)).ed e he) (hM.psz _ (qm m.procs p pr0 hp)).1
 unfold boxS rowI rowC
 refine zL {} 300 Tryz.func86 (fun c0 rdb mpb=>?_)
 have hA:∀ j,(if j=p then [iv e.to] else encL (fun n=>[iv n]) 0 s.at_ j)=encL (fun n=>[iv n]) 0 (s.at_.set p e.to) j:=qkd (fun n=>[iv n]) 0 s.at_ p e.to hat
 (repeat' ((conv=>whnf);first|refine zO ?_|refine Ob.auto ?_|refine zD 300 ?_|(apply zB <;> intro hb <;> (try simp [-zd] at hb) <;> try (exfalso;omega))))
 ·have h1:e.act=1:=by assumption
  ((conv=>whnf);refine zQ 300 ?_)
  ((conv=>whnf);refine CallY.lend (hsv) (by repeat' (first|exact trivial|exact ⟨rfl,rfl⟩|exact rfl|assumption|(refine And.intro ?_ ?_)|(intro _))) leA (by rfl) ?_)
  (repeat' ((conv=>whnf);first|refine zA ?_|fail))
  ((conv=>whnf);refine zQ 300 ?_)
  (repeat' ((conv=>whnf);first|refine zA ?_|refine zO ?_|refine Ob.auto ?_|(refine CallY.con (qlj (sval m p s e.expr).1 (m.vars.getD e.var.toNat vr0).width) (by rfl) leA ?_)|refine zD 300 ?_|fail))
  ((conv=>whnf);refine qdi [0,4,5] 0 rfl frzA ?_)
  have hTe:qcb m s p e=⟨s.at_.set p e.to,s.vars.set e.var.toNat (trim (sval m p s e.expr).1 (m.vars.getD e.var.toNat vr0).width),s.chans,-1⟩:=by
   have h3:=hex (.inl h1)
   simp [qcb,h1,sval,h3,hf,za (show ¬ e.expr<0 by omega)]
  refine qri 0 (qcb m s p e).cells rfl (by
   rw [hTe]
   exact ⟨Le.slc (by simp) (fun j hj=>hA j),Le.slc (by simp) (fun j hj=>qkd (fun n=>[iv n]) 0 s.vars e.var.toNat _ (by omega) j),Le.refl _,Le.of_eq (congrArg (AV.int _) hh),trivial⟩) ?_
  (repeat' ((conv=>whnf);first|refine zA ?_|refine Ob.auto ?_|(refine CallZ.con (fun hg=>hmv) jn (by rfl) ?_)|(refine zQ 300 ?_)|(apply zB <;> intro hb <;> (try simp [-zd] at hb) <;> try (exfalso;omega))))
  ·exact ⟨Le.refl _,⟨rfl,Le.refl _,Le.refl _,Le.refl _,Le.of_eq (congrArg (AV.int _) (zb hb).symm),trivial⟩,trivial⟩
  ·refine ⟨Le.refl _,⟨rfl,Le.refl _,Le.refl _,Le.refl _,Le.of_eq (congrArg (AV.int _) ?_),trivial⟩,trivial⟩
   refine Eq.trans (by rw [hTe]) (za (fun h=>?_)).symm
   have:=hb h.1;rw [h.2] at this;cases this
 ·have h3:e.act=3:=by assumption
  ((conv=>whnf);refine zQ 300 ?_)
  (repeat' ((conv=>whnf);first|refine zA ?_|refine zO ?_|refine Ob.auto ?_|(refine CallY.con (qlj ((s.chans.getD e.chn.toNat []).getD 0 0) (m.vars.getD e.var.toNat vr0).width) (by rfl) leA ?_)|refine zD 300 ?_|fail))
  ((conv=>whnf);refine qdi [0,4,5] 0 rfl frzA ?_)
  have hD:∀ j,LeL (if j=e.chn.toNat then [AV.slc 1 ((s.chans.getD e.chn.toNat []).length - 1) fun i=>encL (fun n=>[iv n]) 0 (s.chans.getD e.chn.toNat []) (1+i)] else encL (fun c=>[ints c]) [] s.chans j) (encL (fun c=>[ints c]) [] (s.chans.set e.chn.toNat ((s.chans.getD e.chn.toNat []).drop 1)) j):=fun j=>by
   rw [← qkd (fun c=>[ints c]) [] s.chans e.chn.toNat _ (by omega) j]
   by_cases hj:j=e.chn.toNat
   ·rw [zb hj,zb hj]
    refine ⟨Le.slc (by simp) (fun q _=>?_),trivial⟩
    unfold encL
    rw [zd (l:=List.drop 1 _),xc,← zd]
   ·rw [za hj,za hj];exact LeL.refl _
  have hTe:qcb m s p e=⟨s.at_.set p e.to,s.vars.set e.var.toNat (trim ((s.chans.getD e.chn.toNat []).getD 0 0) (m.vars.getD e.var.toNat vr0).width),s.chans.set e.chn.toNat ((s.chans.getD e.chn.toNat []).drop 1),-1⟩:=by
   simp [qcb,h3]
  refine qri 0 (qcb m s p e).cells rfl (by
   rw [hTe]
   refine ⟨Le.slc (by simp) (fun j hj=>hA j),Le.slc (by simp) (fun j hj=>qkd (fun n=>[iv n]) 0 s.vars e.var.toNat _ (by omega) j),Le.slcL (by simp) (fun j hj=>?_),Le.of_eq (congrArg (AV.int _) hh),trivial⟩
   exact hD j) ?_
  (repeat' ((conv=>whnf);first|refine zA ?_|refine Ob.auto ?_|(refine CallZ.con (fun hg=>hmv) jn (by rfl) ?_)|(refine zQ 300 ?_)|(apply zB <;> intro hb <;> (try simp [-zd] at hb) <;> try (exfalso;omega))))
  ·exact ⟨Le.refl _,⟨rfl,Le.refl _,Le.refl _,Le.refl _,Le.of_eq (congrArg (AV.int _) (zb hb).symm),trivial⟩,trivial⟩
  ·refine ⟨Le.refl _,⟨rfl,Le.refl _,Le.refl _,Le.refl _,Le.of_eq (congrArg (AV.int _) ?_),trivial⟩,trivial⟩
   refine Eq.trans (by rw [hTe]) (za (fun h=>?_)).symm
   have:=hb h.1;rw [h.2] at this;cases this
 ·((conv=>whnf);refine qdi [0,4,5] 0 rfl frzA ?_)
  have hTe:qcb m s p e=⟨s.at_.set p e.to,s.vars,s.chans,-1⟩:=by simp [qcb,h2, *]
  refine qri 0 (qcb m s p e).cells rfl (by
   rw [hTe]
   exact ⟨Le.slc (by simp) (fun j hj=>hA j),Le.refl _,Le.refl _,Le.of_eq (congrArg (AV.int _) hh),trivial⟩) ?_
  (repeat' ((conv=>whnf);first|refine zA ?_|refine Ob.auto ?_|(refine CallZ.con (fun hg=>hmv) jn (by rfl) ?_)|(refine zQ 300 ?_)|(apply zB <;> intro hb <;> (try simp [-zd] at hb) <;> try (exfalso;omega))))
  ·exact ⟨Le.refl _,⟨rfl,Le.refl _,Le.refl _,Le.refl _,Le.of_eq (congrArg (AV.int _) (zb hb).symm),trivial⟩,trivial⟩
  ·refine ⟨Le.refl _,⟨rfl,Le.refl _,Le.refl _,Le.refl _,Le.of_eq (congrArg (AV.int _) ?_),trivial⟩,trivial⟩
   refine Eq.trans (by rw [hTe]) (za (fun h=>?_)).symm
   have:=hb h.1;rw [h.2] at this;cases this
end Go.Proofs.YtikahnkkfkoglaaGreatDoor
end
