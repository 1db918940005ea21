/- Some texts of the library, one behind the other. -/
import Derived.Test.YthfaleaojlnnoaaY514
import Derived.Test.YthfaleaojlnnoaaY58
import Derived.Test.YthfaleaojlnnoaaY52
set_option linter.unusedSimpArgs false
set_option linter.unusedVariables false
section
namespace Go.Proofs.Ythfaleaojlnnoaa
namespace Pa
open Go Go.Sx
def shP (k:Nat) (p:Ps):Ps:={ p with at_:=p.at_+k }
def shR (k:Nat) (r:Tr × Ps):Tr × Ps:=(r.1,shP k r.2)
def shS (k:Nat) (r:List Tr × Ps):List Tr × Ps:=(r.1,shP k r.2)
structure Sim (U V:List Lx.Tok) (k lim:Nat):Prop where
 tok:∀ i,i<lim→V.getD (i+k) Lx.tok0=U.getD i Lx.tok0
 le:U.length≤V.length
 ok:ToksOk U
 fin:U.length≤lim+1
section
variable {U V:List Lx.Tok} {k lim:Nat} (S:Sim U V k lim) {p q:Ps}
include S
theorem s_tk (h:AtOk U p) (hp:p.at_<lim):tk V (shP k p)=tk U p:=by
 have h0:=h.lo
 unfold tk
 rw [← S.tok p.at_.toNat (by omega)]
 show V.getD (p.at_+k).toNat _=_
 rw [show (p.at_+(k:Int)).toNat=p.at_.toNat+k by omega]
omit S in
theorem qne (p:Ps):(shP k p).err=p.err:=rfl
omit S in
theorem qef (p:Ps):adv (shP k p)=shP k (adv p):=by
 show ({ p with at_:=p.at_+k+1 }:Ps)={ p with at_:=p.at_+1+k }
 rw [Int.add_right_comm]
omit S in
theorem jez (p:Ps):outP (shP k p)=shP k (outP p):=rfl
theorem qcb (h:AtOk U p) (hp:p.at_<lim) (s:List UInt8):sees V (shP k p) s=sees U p s:=by unfold sees;rw [s_tk S h hp];rfl
theorem qsm (h:AtOk U p) (hp:p.at_<lim) (e:Int):bad V (shP k p) e=shP k (bad U p e):=by
 unfold bad
 rw [qne,s_tk S h hp]
 split <;> rfl
theorem qxc (h:AtOk U p) (hp:p.at_<lim) (s:List UInt8):took V (shP k p) s=shP k (took U p s):=by unfold took;rw [qcb S h hp,qef];split <;> rfl
theorem qdh (h:AtOk U p) (hp:p.at_<lim) (s:List UInt8):must V (shP k p) s=shP k (must U p s):=by unfold must;rw [qcb S h hp,qef,qsm S h hp];split <;> rfl
theorem jfa (h:AtOk U p) (hp:p.at_<lim):qco V (shP k p)=qco U p:=by unfold qco;rw [s_tk S h hp];rfl
theorem qhz (h:AtOk U p) (hp:p.at_<lim):qz V (shP k p)=qz U p:=by unfold qz;rw [jfa S h hp,s_tk S h hp]
theorem qia (h:AtOk U p) (hp:p.at_<lim):qc V (shP k p)=shP k (qc U p):=by unfold qc;rw [jfa S h hp,qef,qsm S h hp];split <;> rfl
theorem jfb (h:AtOk U p) (hp:p.at_<lim):qcg V (shP k p)=qcg U p:=by unfold qcg;rw [s_tk S h hp];rfl
theorem qkw (h:AtOk U p) (hp:p.at_<lim):numN V (shP k p)=numN U p:=by unfold numN;rw [jfb S h hp,s_tk S h hp]
theorem qkx (h:AtOk U p) (hp:p.at_<lim):numP V (shP k p)=shP k (numP U p):=by unfold numP;rw [jfb S h hp,qef,qsm S h hp];split <;> rfl
theorem qxd (h:AtOk U p) (hp:p.at_<lim) (s:List UInt8):ju V (shP k p) s=ju U p s:=by unfold ju;rw [qcb S h hp]
theorem s_in (h:AtOk U p) (hp:p.at_<lim):inP V (shP k p)=shP k (inP U p):=by
 unfold inP
 have e:({ shP k p with deep:=(shP k p).deep+1 }:Ps)=shP k { p with deep:=p.deep+1 }:=rfl
 rw [e,qsm S (p:={ p with deep:=p.deep+1 }) ⟨h.lo,h.hi⟩ hp]
 show (if 200<p.deep+1 then _ else _)=_
 split <;> rfl
def Tra (U:List Lx.Tok) (k lim:Nat) (lo:Int) (f g:Ps→Tr × Ps):Prop:=∀ p,AtOk U p→lo≤p.at_→(f p).2.at_<lim→g (shP k p)=shR k (f p)
theorem qph {lo:Int} {f f':Ps→Tr × Ps} (hr:Runs U f) (hf:Tra U k lim lo f f') {c c':Ps→Bool} (hcs:∀ p,c p=true→∃ s,sees U p s=true) (hc:∀ p,AtOk U p→p.at_<lim→c' (shP k p)=c p) {sg sg':Ps→Int} (hsg:∀ p,AtOk U p→p.at_<lim→sg' (shP k p)=sg p) :
  ∀ (n m:Nat) (a:Tr) (p:Ps),n≤m→(U.length:Int)≤n+p.at_→AtOk U p→lo≤p.at_→(js f c sg n a p).2.at_<lim→js f' c' sg' m a (shP k p)=shR k (js f c sg n a p)
 | 0,m,a,p,hn,hU,h,hlo,hq=>by have:=h.hi;exfalso;omega
 | n+1,0,a,p,hn,hU,h,hlo,hq=>by exfalso;omega
 | n+1,m+1,a,p,hn,hU,h,hlo,hq=>by
  have hst:=(qec S.ok hr (sg:=sg) hcs (n+1) a p h).le
  have hp:p.at_<lim:=by omega
  rw [js] at hq ⊢
  rw [js,hc p h hp,hsg p h hp,qef]
  by_cases hcp:c p=true
  ·rw [zf hcp] at hq ⊢
   rw [zf hcp]
   obtain ⟨s,hs⟩:=hcs p hcp
   have h1:=qf S.ok h hs
   have a1:=h1.ok h
   have h2:=hr _ a1
   have a2:=h2.ok a1
   have h3:=(qec S.ok hr (sg:=sg) hcs n (binT (sg p) a (f (adv p)).1) (f (adv p)).2 a2).le
   have e1:(adv p).at_=p.at_+1:=rfl
   have h2l:=h2.le
   rw [hf _ a1 (by omega) (by omega)]
   exact qph hr hf hcs hc hsg n m _ _ (by omega) (by omega) a2 (by omega) hq
  ·rw [ze hcp,ze hcp];rfl
theorem jfc {lo:Int} {f f':Ps→Tr × Ps} (hr:Runs U f) (hf:Tra U k lim lo f f') (s:List UInt8) (sg:Int):Tra U k lim lo (qek U f s sg) (qek V f' s sg):=fun p h hlo hq=>by
 have h1:=hr p h
 have a1:=h1.ok h
 have hf1:(f p).2.at_<lim:=by
  have:=h1.le
  unfold qek at hq
  split at hq
  ·have h2:=qf S.ok a1 (by assumption)
   have h3:=hr _ (h2.ok a1)
   have:=h2.le;have:=h3.le
   simp only at hq
   omega
  ·exact hq
 unfold qek at hq ⊢
 rw [hf p h hlo hf1]
 show (if sees V (shP k (f p).2) s=true then _ else _)=_
 rw [qcb S a1 hf1]
 split at hq
 ·rename_i hs
  have h2:=qf S.ok a1 hs
  have:=h1.le;have:=h2.le
  rw [zf hs,zf hs]
  show (binT sg (f p).1 (f' (adv (shP k (f p).2))).1,(f' (adv (shP k (f p).2))).2)=_
  rw [qef,hf _ (h2.ok a1) (by omega) hq]
  rfl
 ·rename_i hs
  rw [ze hs,ze hs]
section
variable {lo:Int} {part part':Ps→Tr × Ps} (hr:Runs U part) (hp:Tra U k lim lo part part')
include hr hp
theorem jfd:Tra U k lim lo (qbm U part) (qbm V part'):=fun p h hlo hq=>by
 have h1:=hr p h
 have:=h1.le
 have a1:=h1.ok h
 have h2:=(qec S.ok hr (sg:=qeu U) (fun _=>qke) U.length (part p).1 (part p).2 a1).le
 have hl:(part p).2.at_<lim:=Int.lt_of_le_of_lt h2 hq
 unfold qbm
 rw [hp p h hlo hl]
 exact qph S hr hp (fun _=>qke) (fun p h hp=>by unfold qdq;simp only [qcb S h hp]) (fun p h hp=>by unfold qeu;simp only [qcb S h hp]) _ _ _ _ S.le (by have:=a1.lo;omega) a1 (by omega) hq
theorem s_sum:Tra U k lim lo (sumF U part) (sumF V part'):=fun p h hlo hq=>by
 have hr1:=qiu S.ok hr
 have h1:=hr1 p h
 have:=h1.le
 have a1:=h1.ok h
 have h2:=(qec S.ok hr1 (sg:=sumS U) (fun _=>qkf) U.length (qbm U part p).1 (qbm U part p).2 a1).le
 have hl:(qbm U part p).2.at_<lim:=Int.lt_of_le_of_lt h2 hq
 unfold sumF
 rw [jfd S hr hp p h hlo hl]
 exact qph S hr1 (jfd S hr hp) (fun _=>qkf) (fun p h hp=>by unfold sumC;simp only [qcb S h hp]) (fun p h hp=>by unfold sumS;simp only [qcb S h hp]) _ _ _ _ S.le (by have:=a1.lo;omega) a1 (by omega) hq
theorem jst:Tra U k lim lo (qch U part) (qch V part'):=jfc S (qmc S.ok hr) (s_sum S hr hp) _ _
theorem jfe:Tra U k lim lo (qcp U part) (qcp V part'):=jfc S (qmd S.ok hr) (jst S hr hp) _ _
theorem jff:Tra U k lim lo (andF U part) (andF V part'):=fun p h hlo hq=>by
 have hr1:=qiv S.ok hr
 have h1:=hr1 p h
 have:=h1.le
 have a1:=h1.ok h
 have h2:=(qec S.ok hr1 (sg:=fun _=>1) (c:=fun p=>sees U p qhr) (fun _ h=>⟨_,h⟩) U.length (qcp U part p).1 (qcp U part p).2 a1).le
 have hl:(qcp U part p).2.at_<lim:=Int.lt_of_le_of_lt h2 hq
 unfold andF
 rw [jfe S hr hp p h hlo hl]
 exact qph S hr1 (jfe S hr hp) (fun _ h=>⟨_,h⟩) (fun p h hp=>qcb S h hp _) (fun p h hp=>rfl) _ _ _ _ S.le (by have:=a1.lo;omega) a1 (by omega) hq
theorem jfg:Tra U k lim lo (qal U part) (qal V part'):=fun p h hlo hq=>by
 have hr1:=qiw S.ok hr
 have h1:=hr1 p h
 have:=h1.le
 have a1:=h1.ok h
 have h2:=(qec S.ok hr1 (sg:=fun _=>0) (c:=fun p=>sees U p sOr2) (fun _ h=>⟨_,h⟩) U.length (andF U part p).1 (andF U part p).2 a1).le
 have hl:(andF U part p).2.at_<lim:=Int.lt_of_le_of_lt h2 hq
 unfold qal
 rw [jff S hr hp p h hlo hl]
 exact qph S hr1 (jff S hr hp) (fun _ h=>⟨_,h⟩) (fun p h hp=>qcb S h hp _) (fun p h hp=>rfl) _ _ _ _ S.le (by have:=a1.lo;omega) a1 (by omega) hq
end
theorem jfh:∀ (n m:Nat),n≤m→Tra U k lim (U.length - n) (qr U n) (qr V m)
 | 0,m,hn=>fun p h hlo hq=>by have:=h.hi;exfalso;omega
 | n+1,0,hn=>by exfalso;omega
 | n+1,m+1,hn=>fun p h hlo hq=>by
  have hst:=(qcq S.ok (n+1) p h).le
  have hp:p.at_<lim:=by omega
  have IH:=jfh n m (by omega)
  have e1:(adv p).at_=p.at_+1:=rfl
  unfold qr at hq ⊢
  simp only at hq ⊢
  simp only [s_tk S h hp,qcb S h hp,qne,qkw S h hp,qkx S h hp,qef,qhz S h hp,qia S h hp]
  by_cases c1:p.err=0∧(tk U p).kind=1
  ·simp only [zf c1];rfl
  simp only [ze c1] at hq ⊢
  by_cases c2:sees U p kLen=true
  ·simp only [zf c2] at hq ⊢
   have h1:=qf S.ok h c2
   have a1:=h1.ok h
   have:=(jj S.ok a1).le
   rw [qhz S a1 (by omega),qia S a1 (by omega)];rfl
  simp only [ze c2] at hq ⊢
  by_cases c3:sees U p qaq=true∨sees U p qha=true
  ·simp only [zf c3] at hq ⊢
   have h1:Step U p (adv p):=by rcases c3 with hs|hs <;> exact qf S.ok h hs
   have a1:=h1.ok h
   have hi:=jo a1
   have h2:=(qrb (qcq S.ok n) hi.1).le
   have hq':(ifOk (qr U n) (inP U (adv p))).2.at_<lim:=hq
   have e2:=hi.2.1
   rw [s_in S a1 (by omega)]
   have e:ifOk (qr V m) (shP k (inP U (adv p)))=((ifOk (qr U n) (inP U (adv p))).1,shP k (ifOk (qr U n) (inP U (adv p))).2):=by
    unfold ifOk at hq' ⊢
    rw [qne]
    split at hq'
    ·rename_i hx
     rw [zf hx,zf hx,IH _ hi.1 (by omega) hq']
     rfl
    ·rename_i hx
     rw [ze hx,ze hx]
   rw [e]
   rfl
  simp only [ze c3] at hq ⊢
  by_cases c4:sees U p sLp=true
  ·simp only [zf c4] at hq ⊢
   have h1:=qf S.ok h c4
   have a1:=h1.ok h
   have hi:=jo a1
   have e2:=hi.2.1
   have h3:Step U (adv p) (outP (if (inP U (adv p)).err=0 then (qal U (qr U n) (inP U (adv p))).2 else inP U (adv p))):=by
    refine qfl a1 ?_
    split
    ·exact qix S.ok (qcq S.ok n) _ hi.1
    ·exact hi.1.refl
   have a3:=h3.ok a1
   have h4:=(qg S.ok a3 sRp).le
   have hq3:(outP (if (inP U (adv p)).err=0 then (qal U (qr U n) (inP U (adv p))).2 else inP U (adv p))).at_<lim:=by omega
   have h3l:=h3.le
   rw [s_in S a1 (by omega),qne]
   by_cases hx:(inP U (adv p)).err=0
   ·simp only [zf hx] at hq hq3 a3 ⊢
    rw [jfg S (qcq S.ok n) IH _ hi.1 (by omega) hq3]
    show (_,must V (outP (shP k _)) sRp)=_
    rw [jez,qdh S a3 hq3]
    rfl
   ·simp only [ze hx] at hq hq3 a3 ⊢
    rw [jez,qdh S a3 hq3]
    rfl
  simp only [ze c4]
  rfl
theorem s_e:Tra U k lim 0 (eF U) (eF V):=fun p h hlo hq=>jfg S (qcq S.ok _) (jfh S U.length V.length S.le) p h (by omega) hq
end
end Pa
end Go.Proofs.Ythfaleaojlnnoaa
end
section
namespace Go.Proofs.Ythfaleaojlnnoaa
namespace Pa
open Go Go.Sx
theorem qsn {ts:List Lx.Tok} {stat:Ps→Tr × Ps} {p:Ps} (h:p.err≠0) (l:List Tr):∀ n,ql ts stat n l p=(l,p)
 | 0=>by rw [ql]
 | n+1=>by rw [ql,ze h]
section
variable {U V:List Lx.Tok} {k lim:Nat} (S:Sim U V k lim) {p q:Ps}
include S
theorem jfi (h:AtOk U p) (hp:¬ p.at_<lim):(tk U p).kind=3:=by
 have h0:=h.lo
 have h1:=h.hi
 have h2:=S.fin
 have h3:=(S.ok.last p.at_.toNat (by omega)).2 (by omega)
 exact h3
theorem qjd {s:List UInt8} (h:AtOk U p) (he:(must U p s).err=0):p.at_<lim:=Classical.byContradiction fun hn=>by
 have h1:=jfi S h hn
 have h2:=qvn (qev he).1
 omega
theorem qnf {s:List UInt8} (h:AtOk U p) (he:(must U p s).err=0):must V (shP k p) s=shP k (must U p s):=qdh S h (qjd S h he) s
theorem qpi {f:Ps→Tr × Ps} (hr:Runs U f) (h:AtOk U p) (hg:(f p).2.err=0→p.at_<(f p).2.at_) (he:(f p).2.err=0):p.at_<lim:=by
 have h1:=hg he
 have h2:=(hr p h).hi
 have h3:=S.fin
 omega
section
variable {lo:Int} {stat stat':Ps→Tr × Ps} (hr:Runs U stat) (hg:∀ p,AtOk U p→lo≤p.at_→(stat p).2.err=0→p.at_<(stat p).2.at_) (hs:Tra U k lim lo stat stat')
include hr hg
theorem qxe {n:Nat} {l:List Tr} (he:p.err=0) (hU:(U.length:Int)≤n+p.at_) (h:AtOk U p) (hlo:lo≤p.at_) (hq:(ql U stat n l p).2.err=0):p.at_<lim:=Classical.byContradiction fun hn=>by
 cases n with
 | zero=>have:=h.hi;omega
 | succ n=>
  have h1:=jfi S h hn
  rw [ql,zf he] at hq
  by_cases hse:sees U p sRc=true
  ·have:=qvn hse;omega
  ·rw [ze hse] at hq
   have h2:=(hr p h)
   have h3:=(qdf S.ok hr n (l++[(stat p).1]) (stat p).2 (h2.ok h)).err0 hq
   exact hn (qpi S hr h (hg p h hlo) h3)
include hs
theorem qxf:∀ (n m:Nat) (l:List Tr) (p:Ps),n≤m→(U.length:Int)≤n+p.at_→AtOk U p→lo≤p.at_→((ql U stat n l p).2.at_<lim∨(ql U stat n l p).2.err=0)→ql V stat' m l (shP k p)=shS k (ql U stat n l p)
 | 0,m,l,p,hn,hU,h,hlo,hq=>by have:=h.hi;exfalso;omega
 | n+1,0,l,p,hn,hU,h,hlo,hq=>by exfalso;omega
 | n+1,m+1,l,p,hn,hU,h,hlo,hq=>by
  by_cases he:p.err=0
  ·have hp:p.at_<lim:=by
    rcases hq with hq|hq
    ·have:=(qdf S.ok hr (n+1) l p h).le;omega
    ·exact qxe S hr hg he hU h hlo hq
   rw [ql,zf he] at hq
   rw [ql,qne,zf he,qcb S h hp,qef]
   conv=>rhs;rw [ql,zf he]
   by_cases hse:sees U p sRc=true
   ·rw [zf hse,zf hse];rfl
   ·rw [ze hse] at hq
    rw [ze hse,ze hse]
    have h1:=hr p h
    have a1:=h1.ok h
    have h1l:=h1.le
    have h2:=qdf S.ok hr n (l++[(stat p).1]) (stat p).2 a1
    by_cases he1:(stat p).2.err=0
    ·have hga:=hg p h hlo he1
     have hp1:(stat p).2.at_<lim:=by
      rcases hq with hq|hq
      ·have:=h2.le;omega
      ·exact qxe S hr hg he1 (by omega) a1 (by omega) hq
     rw [hs p h hlo hp1]
     exact qxf n m _ _ (by omega) (by omega) a1 (by omega) hq
    ·rw [qsn he1] at hq ⊢
     have hp1:(stat p).2.at_<lim:=by
      rcases hq with hq|hq
      ·exact hq
      ·exact absurd hq he1
     rw [hs p h hlo hp1]
     exact qsn (p:=shP k (stat p).2) he1 _ _
  ·rw [qsn he,qsn (p:=shP k p) he];rfl
theorem jsu:Tra U k lim lo (qi U stat) (qi V stat'):=fun p h hlo hq=>by
 have h1:=qg S.ok h sLc
 have a1:=h1.ok h
 have hi:=jo a1
 have e2:=hi.2.1
 have h2:=(qdf S.ok hr U.length [] _ hi.1).le
 have h1l:=h1.le
 have hq':(ql U stat U.length [] (inP U (must U p sLc))).2.at_<lim:=hq
 have h0:=hi.1.lo
 unfold qi
 rw [s_tk S h (by omega),qdh S h (by omega),s_in S a1 (by omega),qxf S hr hg hs U.length V.length [] _ S.le (by omega) hi.1 (by omega) (.inl hq')]
 rfl
end
theorem s_or {lo:Int} {blk blk':Ps→Tr × Ps} (hr:Runs U blk) (hb:Tra U k lim lo blk blk'):∀ (n m:Nat) (l:List Tr) (p:Ps),n≤m→(U.length:Int)≤n+p.at_→AtOk U p→lo≤p.at_→(orL U blk n l p).2.at_<lim→orL V blk' m l (shP k p)=shS k (orL U blk n l p)
 | 0,m,l,p,hn,hU,h,hlo,hq=>by have:=h.hi;exfalso;omega
 | n+1,0,l,p,hn,hU,h,hlo,hq=>by exfalso;omega
 | n+1,m+1,l,p,hn,hU,h,hlo,hq=>by
  have hst:=(qhb S.ok hr (n+1) l p h).le
  have hp:p.at_<lim:=by omega
  rw [orL] at hq ⊢
  rw [orL,qcb S h hp,qef]
  by_cases hs:sees U p kOr=true
  ·rw [zf hs] at hq ⊢
   rw [zf hs]
   have h1:=qf S.ok h hs
   have a1:=h1.ok h
   have h2:=hr _ a1
   have a2:=h2.ok a1
   have h3:=(qhb S.ok hr n (l++[(blk (adv p)).1]) (blk (adv p)).2 a2).le
   have e1:(adv p).at_=p.at_+1:=rfl
   have h2l:=h2.le
   rw [hb _ a1 (by omega) (by omega)]
   exact s_or hr hb n m _ _ (by omega) (by omega) a2 (by omega) hq
  ·rw [ze hs,ze hs];rfl
theorem jsv {lo:Int} {blk blk':Ps→Tr × Ps} (hr:Runs U blk) (hb:Tra U k lim lo blk blk') (a i:Int):∀ p,AtOk U p→(qam U blk a i p).2.at_<lim→(¬ sees U p jn=true→¬ sees U p jr=true→lo≤(must U p qp).at_)→qam V blk' a i (shP k p)=shR k (qam U blk a i p):=fun p h hq hx=>by
 have hst:=(jax S.ok hr a i p h).le
 have hp:p.at_<lim:=by omega
 unfold qam at hq ⊢
 rw [qcb S h hp,qcb S h hp,qef]
 by_cases c1:sees U p jn=true
 ·rw [zf c1] at hq ⊢
  rw [zf c1]
  have h1:=qf S.ok h c1
  have a1:=h1.ok h
  have h2:=jj S.ok a1
  have a2:=h2.ok a1
  have h3:=jj S.ok a2
  have a3:=h3.ok a2
  have h4:=qg S.ok a3 qj
  have:=h2.le;have:=h3.le;have:=h4.le
  have hq':(must U (qc U (qc U (adv p))) qj).at_<lim:=hq
  rw [qhz S a1 (by omega),qia S a1 (by omega),qhz S a2 (by omega),qia S a2 (by omega),qdh S a3 (by omega)]
  rfl
 rw [ze c1] at hq ⊢
 rw [ze c1]
 by_cases c2:sees U p jr=true
 ·rw [zf c2] at hq ⊢
  rw [zf c2]
  have h1:=qf S.ok h c2
  have a1:=h1.ok h
  have h2:=jz S.ok _ a1
  have a2:=h2.ok a1
  have h4:=qg S.ok a2 qj
  have:=h2.le;have:=h4.le
  have hq':(must U (eF U (adv p)).2 qj).at_<lim:=hq
  rw [s_e S _ a1 a1.lo (by omega)]
  show (Tr.mk 9 [] [i] a [(eF U (adv p)).1],must V (shP k (eF U (adv p)).2) qj)=_
  rw [qdh S a2 (by omega)]
  rfl
 rw [ze c2] at hq ⊢
 rw [ze c2]
 simp only at hq ⊢
 have h1:=qg S.ok h qp
 have a1:=h1.ok h
 have h2:=hr _ a1
 have a2:=h2.ok a1
 have h3:=qhb S.ok hr U.length [(blk (must U p qp)).1] _ a2
 have:=h1.le;have:=h2.le;have:=h3.le
 have hl1:=hx c1 c2
 have h0:=a2.lo
 rw [qdh S h hp,hb _ a1 hl1 (by omega)]
 show (Tr.mk 10 [] [i] a (orL V blk' V.length [(blk (must U p qp)).1] (shP k (blk (must U p qp)).2)).1,(orL V blk' V.length [(blk (must U p qp)).1] (shP k (blk (must U p qp)).2)).2)=_
 rw [s_or S hr hb U.length V.length _ _ S.le (by omega) a2 (by omega) hq]
 rfl
end
end Pa
end Go.Proofs.Ythfaleaojlnnoaa
end
section
namespace Go.Proofs.Ythfaleaojlnnoaa
namespace Pa
open Go Go.Sx
section
variable {U V:List Lx.Tok} {k lim:Nat} (S:Sim U V k lim) {p q:Ps}
include S
theorem jfj:∀ (n m:Nat),n≤m→Tra U k lim (U.length - n) (qd U n) (qd V m)
 | 0,m,hn=>fun p h hlo hq=>by have:=h.hi;exfalso;omega
 | n+1,0,hn=>by exfalso;omega
 | n+1,m+1,hn=>fun p h hlo hq=>by
  have hst:=(qdr S.ok (n+1) p h).le
  have hp:p.at_<lim:=by omega
  have hgs:∀ p,AtOk U p→(U.length:Int) - n≤p.at_→(qd U n p).2.err=0→p.at_<(qd U n p).2.at_:=fun p h hlo he=>by
   cases n with
   | zero=>have:=h.hi;exfalso;omega
   | succ n=>exact qor S.ok n p h he
  have hB:=jsu S (qdr S.ok n) hgs (jfj n m (by omega))
  have hR:=qgd S.ok (qdr S.ok n)
  have e1:(adv p).at_=p.at_+1:=rfl
  unfold qd at hq ⊢
  simp only at hq ⊢
  simp only [s_tk S h hp,qcb S h hp,qxd S h hp,qxc S h hp,qef,qhz S h hp,qia S h hp]
  by_cases c1:sees U p jq=true∨sees U p jn=true∨sees U p jr=true∨sees U p qp=true
  ·simp only [zf c1] at hq ⊢
   have h1:=qcy S.ok h jq
   refine jsv S hR hB _ _ _ (h1.ok h) hq fun g1 g2=>?_
   by_cases ci:sees U p jq=true
   ·have e:took U p jq=adv p:=zf ci
    have:=(qg S.ok (h1.ok h) qp).le
    rw [e] at this ⊢
    omega
   ·have e:took U p jq=p:=ze ci
    rw [e] at g1 g2 ⊢
    rcases c1 with c1|c1|c1|c1
    ·exact absurd c1 ci
    ·exact absurd c1 g1
    ·exact absurd c1 g2
    ·rw [show must U p qp=adv p from zf c1]
     omega
  simp only [ze c1] at hq ⊢
  by_cases c2:sees U p qbu=true
  ·simp only [zf c2] at hq ⊢
   have h1:=qf S.ok h c2
   have a1:=h1.ok h
   have h2:=jj S.ok a1
   have a2:=h2.ok a1
   have h3:=jz S.ok _ a2
   have a3:=h3.ok a2
   have h4:=(qg S.ok a3 qj).le
   have:=h2.le;have:=h3.le
   rw [qhz S a1 (by omega),qia S a1 (by omega),s_e S _ a2 a2.lo (by omega)]
   show (Tr.mk 7 _ [] _ [(eF U (qc U (adv p))).1],must V (shP k (eF U (qc U (adv p))).2) qj)=_
   rw [qdh S a3 (by omega)]
   rfl
  simp only [ze c2] at hq ⊢
  by_cases c3:sees U p kIf=true
  ·simp only [zf c3] at hq ⊢
   have h1:=qf S.ok h c3
   have a1:=h1.ok h
   have h2:=jz S.ok _ a1
   have a2:=h2.ok a1
   have h3:=hR _ a2
   have a3:=h3.ok a2
   have:=h2.le;have:=h3.le
   have hq3:(qi U (qd U n) (eF U (adv p)).2).2.at_<lim:=by
    split at hq
    ·have h5:=qf S.ok a3 (by assumption)
     have h6:=hR _ (h5.ok a3)
     have:=h5.le;have:=h6.le
     simp only at hq
     omega
    ·exact hq
   rw [s_e S _ a1 a1.lo (by omega)]
   show (if sees V (qi V (qd V m) (shP k (eF U (adv p)).2)).2 qdw=true then (Tr.mk 11 [] [] _ [(eF U (adv p)).1,(qi V (qd V m) (shP k (eF U (adv p)).2)).1,(qi V (qd V m) (adv (qi V (qd V m) (shP k (eF U (adv p)).2)).2)).1],(qi V (qd V m) (adv (qi V (qd V m) (shP k (eF U (adv p)).2)).2)).2) else (Tr.mk 11 [] [] _ [(eF U (adv p)).1,(qi V (qd V m) (shP k (eF U (adv p)).2)).1],(qi V (qd V m) (shP k (eF U (adv p)).2)).2))=_
   rw [hB _ a2 (by omega) hq3]
   show (if sees V (shP k (qi U (qd U n) (eF U (adv p)).2).2) qdw=true then (Tr.mk 11 [] [] _ [(eF U (adv p)).1,(qi U (qd U n) (eF U (adv p)).2).1,(qi V (qd V m) (adv (shP k (qi U (qd U n) (eF U (adv p)).2).2))).1],(qi V (qd V m) (adv (shP k (qi U (qd U n) (eF U (adv p)).2).2))).2) else (Tr.mk 11 [] [] _ [(eF U (adv p)).1,(qi U (qd U n) (eF U (adv p)).2).1],shP k (qi U (qd U n) (eF U (adv p)).2).2))=_
   rw [qcb S a3 hq3,qef]
   by_cases ce:sees U (qi U (qd U n) (eF U (adv p)).2).2 qdw=true
   ·simp only [zf ce] at hq ⊢
    have h5:=qf S.ok a3 ce
    have:=h5.le
    rw [hB _ (h5.ok a3) (by omega) hq]
    rfl
   ·simp only [ze ce]
    rfl
  simp only [ze c3] at hq ⊢
  by_cases c4:sees U p qbv=true
  ·simp only [zf c4] at hq ⊢
   have h1:=qf S.ok h c4
   have a1:=h1.ok h
   have h2:=jz S.ok _ a1
   have a2:=h2.ok a1
   have h3:=hR _ a2
   have:=h2.le;have:=h3.le
   rw [s_e S _ a1 a1.lo (by omega)]
   show (Tr.mk 12 [] [] _ [(eF U (adv p)).1,(qi V (qd V m) (shP k (eF U (adv p)).2)).1],(qi V (qd V m) (shP k (eF U (adv p)).2)).2)=_
   rw [hB _ a2 (by omega) hq]
   rfl
  simp only [ze c4] at hq ⊢
  by_cases c5:sees U p qbw=true
  ·simp only [zf c5] at hq ⊢
   have h1:=qf S.ok h c5
   have a1:=h1.ok h
   rw [hB _ a1 (by omega) hq]
   rfl
  simp only [ze c5] at hq ⊢
  by_cases c6:sees U p qbx=true
  ·simp only [zf c6] at hq ⊢
   have h1:=qf S.ok h c6
   have a1:=h1.ok h
   have:=(qg S.ok a1 qj).le
   rw [qdh S a1 (by omega)]
   rfl
  simp only [ze c6] at hq ⊢
  by_cases c7:sees U p qby=true
  ·simp only [zf c7] at hq ⊢
   have h1:=qf S.ok h c7
   have a1:=h1.ok h
   have:=(qg S.ok a1 qj).le
   rw [qdh S a1 (by omega)]
   rfl
  simp only [ze c7] at hq ⊢
  have h1:=jj S.ok h
  have a1:=h1.ok h
  have h2:=qg S.ok a1 sEq
  have a2:=h2.ok a1
  have h3:=jz S.ok _ a2
  have a3:=h3.ok a2
  have h4:=(qg S.ok a3 qj).le
  have:=h2.le;have:=h3.le
  rw [qdh S a1 (by omega),s_e S _ a2 a2.lo (by omega)]
  show (Tr.mk 6 _ [] _ [(eF U (must U (qc U p) sEq)).1],must V (shP k (eF U (must U (qc U p) sEq)).2) qj)=_
  rw [qdh S a3 (by omega)]
  rfl
theorem s_s:Tra U k lim 0 (sF U) (sF V):=fun p h hlo hq=>jfj S U.length V.length S.le p h (by omega) hq
def TraE (U:List Lx.Tok) (k:Nat) (f g:Ps→Tr × Ps):Prop:=∀ p,AtOk U p→(f p).2.err=0→g (shP k p)=shR k (f p)
theorem jfk:TraE U k (jh U) (jh V):=fun p h he=>by
 have hp:=qpi S (qhc S.ok) h (qmf S.ok p h) he
 unfold jh at he ⊢
 simp only at he ⊢
 have h1:=qg S.ok h kVar
 have a1:=h1.ok h
 have h2:=jj S.ok a1
 have a2:=h2.ok a1
 have h3:=qg S.ok a2 kOf
 have a3:=h3.ok a2
 have h4:=jt S.ok a3
 have a4:=h4.ok a3
 have:=h1.le;have:=h2.le;have:=h3.le;have:=h4.le
 generalize hw:must U p kVar=w1 at *
 generalize hw2:qc U w1=w2 at *
 generalize hw3:must U w2 kOf=w3 at *
 generalize hw4:numP U w3=w4 at *
 have key:w4.at_<lim→jh V (shP k p)=jh V (shP k p):=fun _=>rfl
 have hl:w4.at_<lim:=by
  split at he
  ·rename_i c
   have h5:=qf S.ok a4 c
   have a5:=h5.ok a4
   have:=h5.le
   split at he
   ·rename_i c'
    have h6:=qf S.ok a5 c'
    have a6:=h6.ok a5
    have h7:=jt S.ok a6
    have:=h6.le;have:=h7.le
    have:=qjd S (h7.ok a6) he
    omega
   ·have h7:=jt S.ok a5
    have:=h7.le
    have:=qjd S (h7.ok a5) he
    omega
  ·exact qjd S a4 he
 rw [s_tk S h hp,qdh S h hp,hw,qhz S a1 (by omega),qia S a1 (by omega),hw2,qdh S a2 (by omega),hw3,qkw S a3 (by omega),qkx S a3 (by omega),hw4,qcb S a4 hl,qef]
 split at he
 ·rename_i c
  have h5:=qf S.ok a4 c
  have a5:=h5.ok a4
  have:=h5.le
  simp only [zf c]
  split at he
  ·rename_i c'
   have h6:=qf S.ok a5 c'
   have a6:=h6.ok a5
   have h7:=jt S.ok a6
   have:=h6.le;have:=h7.le
   have hm:=qjd S (h7.ok a6) he
   rw [qcb S a5 (by omega)]
   simp only [zf c']
   rw [qef,qkw S a6 (by omega),qkx S a6 (by omega),qnf S (h7.ok a6) he]
   rfl
  ·rename_i c'
   have h7:=jt S.ok a5
   have:=h7.le
   have hm:=qjd S (h7.ok a5) he
   rw [qcb S a5 (by omega)]
   simp only [ze c']
   rw [qkw S a5 (by omega),qkx S a5 (by omega),qnf S (h7.ok a5) he]
   rfl
 ·rename_i c
  simp only [ze c]
  rw [qnf S a4 he]
  rfl
theorem jfl:∀ (n m:Nat) (l:List Tr) (p:Ps),n≤m→(U.length:Int)≤n+p.at_→AtOk U p→(jg U n l p).2.at_<lim→(jg U n l p).2.err=0→jg V m l (shP k p)=shS k (jg U n l p)
 | 0,m,l,p,hn,hU,h,hq,he=>by have:=h.hi;exfalso;omega
 | n+1,0,l,p,hn,hU,h,hq,he=>by exfalso;omega
 | n+1,m+1,l,p,hn,hU,h,hq,he=>by
  have hst:=(qfm S.ok (n+1) l p h).le
  have hp:p.at_<lim:=by omega
  rw [jg] at hq he ⊢
  rw [jg,qcb S h hp]
  by_cases hs:sees U p kVar=true
  ·rw [zf hs] at hq he ⊢
   rw [zf hs]
   have h2:=qhc S.ok _ h
   have a2:=h2.ok h
   have h3:=qfm S.ok n (l++[(jh U p).1]) _ a2
   have he2:=h3.err0 he
   have hg:=qmf S.ok p h he2
   rw [jfk S p h he2]
   exact jfl n m _ _ (by omega) (by omega) a2 hq he
  ·rw [ze hs,ze hs];rfl
end
end Pa
end Go.Proofs.Ythfaleaojlnnoaa
end
