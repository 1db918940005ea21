/- Contracts of the program's parser: it takes tokens, names; it makes nodes. -/
import Derived.Test.YthfaleaojlnnoaaY316
import Derived.Test.YthfaleaojlnnoaaY31
import Derived.Test.YthfaleaojlnnoaaY32
set_option linter.unusedSimpArgs false
set_option linter.unusedVariables false
namespace Go.Proofs.Ythfaleaojlnnoaa
open List renaming getD_eq_getElem?_getD → zd
open Go Go.Sx Go.RowKit Go.St Pa
set_option maxRecDepth 100000
set_option maxHeartbeats 4000000
theorem je {f:Nat→List AV} {v:List UInt8} (h:f 0=[.str v]):Le (.slc 1 1 f) (strs [v]):=Le.slc rfl (fun i hi=>by obtain rfl:i=0:=(by omega);exact h)
theorem qhm {f:Nat→List AV} {v:Int} (h:f 0=[iv v]):Le (.slc 1 1 f) (ints [v]):=Le.slc rfl (fun i hi=>by obtain rfl:i=0:=(by omega);exact h)
structure PreC (ts:List Lx.Tok) (n:Nat) (p:Ps):Prop where
 at_:AtOk ts p
 err:p.err=0
 deep:0≤p.deep∧p.deep≤200
 left:(ts.length:Int) - p.at_≤n
section
variable {ts:List Lx.Tok} {p q r:Ps} {n:Nat}
theorem PreC.step (h:PreC ts n p) (k:Step ts p q) (he:(q.err == 0)=true):PreC ts n q:=
 ⟨k.ok h.at_,by simpa using he,by have:=h.deep;have:=k.deep;omega,by have:=h.left;have:=k.le;omega⟩
theorem qfy (hk:TokK ts) (h:AtOk ts p) (he:p.err=0) {s:List UInt8} (hs:kwB s=true):Con Try.prog 84 [.rptr (p.cellsC ts),strs [s]] (.bool (sees ts p s)):=by
 have h1:=qzm h [s] (show 1≤1000000 by decide)
 rw [qct hk h he hs]
 have e:([s].any fun x=>(tk ts p).s == x)=((tk ts p).s == s):=by simp
 rwa [e] at h1
theorem jkx (ht:ToksOk ts) (hk:TokK ts) (h:AtOk ts p) (he:p.err=0) {s:List UInt8} (hs:kwB s=true):MTrip Try.prog 61 [.ptr 0 0,strs [s]] [psc ts p] ((must ts p s).err == 0) (.tup []) [(0,psc ts (must ts p s))] 1 (pfl (must ts p s)):=by
 have h0:=h.lo
 have h1:=h.hi
 have h2:=ht.len
 refine qcs (T:=tab Try.prog) (C:={}) 300 (fun _=>rfl) Try.func61 rfl (by kernel_rfl) (by kernel_rfl) (fun c0 rdb mpb=>?_)
 (repeat' ((conv=>whnf);first|refine zA ?_|refine zO ?_|refine Ob.auto ?_|(refine Ob.intro (by (exact qw (by omega) (by omega))) ?_)|refine zC 300 (qfy hk h he hs) ?_|refine zG 300 (fun hg=>qfy hk h he hs) ?_|(refine CallY.con (qfy hk h he hs) (by rfl) leA ?_)|(refine CallZ.con (fun hg=>qfy hk h he hs) qu (by rfl) ?_)|(refine ql (fun _=>rfl) 300 (qfy hk h he hs) qc (by (repeat' (first|exact trivial|exact Le.refl _|(refine And.intro ?_ ?_))) <;> fail) (by rfl) (by kernel_rfl) ?_)|(refine qv (fun _=>rfl) 300 (fun hg=>qfy hk h he hs) (fun hg=>qc) (fun hg=>(by (repeat' (first|exact trivial|exact Le.refl _|exact Le.cnd hg|(refine And.intro ?_ ?_))) <;> fail)) (by rfl) (by kernel_rfl) ?_)|refine zD 300 ?_|(apply zB <;> intro hb <;> (try simp [-zd] at hb) <;> try (exfalso;omega))|refine Ob.intro ?_ ?_))
 ·have e1:must ts p s={ p with err:=11,fat:=(tk ts p).pos }:=by
   unfold must bad
   rw [za (by rw [hb];decide),zb he]
  rw [e1]
  ((conv=>whnf);exact qfx [0] (qgp h 11) rfl (⟨rfl,rfl⟩) (by kernel_rfl) (by kernel_rfl) leA qa (by exact qb rfl))
 ·have e1:must ts p s=adv p:=zb hb
  rw [e1]
  have e2:((adv p).err == 0)=true:=by show (p.err == 0)=true;rw [he];rfl
  rw [e2]
  exact ⟨rfl,Le.refl _,qa⟩
theorem jky (ht:ToksOk ts) (hk:TokK ts) (h:AtOk ts p) (he:p.err=0) {s:List UInt8} (hs:kwB s=true):Trip Try.prog 81 [.ptr 0 0,.str s] [psc ts p] (iv (jv ts p s)) [(0,psc ts (took ts p s))] 1:=by
 have h0:=h.lo
 have h1:=h.hi
 have h2:=ht.len
 refine zL {} 300 Try.func81 (fun c0 rdb mpb=>?_)
 (repeat' ((conv=>whnf);first|refine zA ?_|refine zO ?_|refine Ob.auto ?_|(refine Ob.intro (by (exact qw (by omega) (by omega))) ?_)|refine zD 300 ?_|(apply zB <;> intro hb <;> (try simp [-zd] at hb) <;> try (exfalso;omega))|refine Ob.intro ?_ ?_))
 ((conv=>whnf);refine ql (fun _=>rfl) 300 (qfy hk h he hs) qc ⟨Le.refl _,je rfl,trivial⟩ (by rfl) (by kernel_rfl) ?_)
 (repeat' ((conv=>whnf);first|refine zA ?_|refine zO ?_|refine Ob.auto ?_|(refine Ob.intro (by (exact qw (by omega) (by omega))) ?_)|refine zD 300 ?_|(apply zB <;> intro hb <;> (try simp [-zd] at hb) <;> try (exfalso;omega))|refine Ob.intro ?_ ?_))
 ·rw [jv,took,za (by rw [hb];decide),za (by rw [hb];decide)]
  exact ⟨Le.refl _,qa⟩
 ·rw [jv,took,zb hb,zb hb]
  exact ⟨Le.refl _,qa⟩
theorem jkz (ht:ToksOk ts) (h:AtOk ts p) (he:p.err=0) (hn:(tk ts p).s.length≤1000000):MTrip Try.prog 79 [.ptr 0 0] [psc ts p] ((qd ts p).err == 0) (.str (ji ts p)) [(0,psc ts (qd ts p))] 1 (pfl (qd ts p)):=by
 have h0:=h.lo
 have h1:=h.hi
 have h2:=ht.len
 refine qcs (T:=tab Try.prog) (C:={}) 300 (fun _=>rfl) Try.func79 rfl (by kernel_rfl) (by kernel_rfl) (fun c0 rdb mpb=>?_)
 (repeat' ((conv=>whnf);first|refine zA ?_|refine zO ?_|refine Ob.auto ?_|(refine Ob.intro (by (exact qw (by omega) (by omega))) ?_)|refine zC 300 (qp h) ?_|refine zG 300 (fun hg=>qp h) ?_|(refine CallY.con (qp h) (by rfl) leA ?_)|(refine CallZ.con (fun hg=>qp h) qu (by rfl) ?_)|refine zC 300 (qku _ hn) ?_|refine zG 300 (fun hg=>qku _ hn) ?_|(refine CallY.con (qku _ hn) (by rfl) leA ?_)|(refine CallZ.con (fun hg=>qku _ hn) qu (by rfl) ?_)|(refine ql (fun _=>rfl) 300 (qp h) qc (by (repeat' (first|exact trivial|exact Le.refl _|(refine And.intro ?_ ?_))) <;> fail) (by rfl) (by kernel_rfl) ?_)|(refine qv (fun _=>rfl) 300 (fun hg=>qp h) (fun hg=>qc) (fun hg=>(by (repeat' (first|exact trivial|exact Le.refl _|exact Le.cnd hg|(refine And.intro ?_ ?_))) <;> fail)) (by rfl) (by kernel_rfl) ?_)|(refine ql (fun _=>rfl) 300 (qku _ hn) qc (by (repeat' (first|exact trivial|exact Le.refl _|(refine And.intro ?_ ?_))) <;> fail) (by rfl) (by kernel_rfl) ?_)|(refine qv (fun _=>rfl) 300 (fun hg=>qku _ hn) (fun hg=>qc) (fun hg=>(by (repeat' (first|exact trivial|exact Le.refl _|exact Le.cnd hg|(refine And.intro ?_ ?_))) <;> fail)) (by rfl) (by kernel_rfl) ?_)|refine zD 300 ?_|(apply zB <;> intro hb <;> (try simp [-zd] at hb) <;> try (exfalso;omega))|refine Ob.intro ?_ ?_))
 ·have e:qcx ts p=false:=by
   unfold qcx
   rcases hb with hb|hb <;> simp [hb]
  have e1:qd ts p={ p with err:=11,fat:=(tk ts p).pos }:=by
   unfold qd bad
   rw [za (by rw [e];decide),zb he]
  rw [e1]
  ((conv=>whnf);exact qfx [0] (qgp h 11) rfl (⟨rfl,rfl⟩) (by kernel_rfl) (by kernel_rfl) leA qa (by exact qb rfl))
 ·have e:qcx ts p=true:=by
   unfold qcx
   simp [hb.1,hb.2,he]
  have e2:((adv p).err == 0)=true:=by show (p.err == 0)=true;rw [he];rfl
  rw [ji,qd,zb e,zb e,e2]
  exact ⟨rfl,Le.refl _,qa⟩
theorem qbb (h:AtOk ts p) (k:Int):Trip Try.prog 37 [.ptr 0 0,iv k] [psc ts p] (.ptr 1 0) [(0,psc ts p),(1,.box 78 [iv k,.nils,.nils,.nils,iv (tk ts p).pos,.nils])] 2:=by
 refine zL {} 300 Try.func37 (fun c0 rdb mpb=>?_)
 (repeat' ((conv=>whnf);first|refine zA ?_|refine zO ?_|refine Ob.auto ?_|refine zC 300 (qp h) ?_|refine zG 300 (fun hg=>qp h) ?_|(refine CallY.con (qp h) (by rfl) leA ?_)|(refine CallZ.con (fun hg=>qp h) qu (by rfl) ?_)|(refine ql (fun _=>rfl) 300 (qp h) qc (by (repeat' (first|exact trivial|exact Le.refl _|(refine And.intro ?_ ?_))) <;> fail) (by rfl) (by kernel_rfl) ?_)|(refine qv (fun _=>rfl) 300 (fun hg=>qp h) (fun hg=>qc) (fun hg=>(by (repeat' (first|exact trivial|exact Le.refl _|exact Le.cnd hg|(refine And.intro ?_ ?_))) <;> fail)) (by rfl) (by kernel_rfl) ?_)|refine zD 300 ?_|(apply zB <;> intro hb <;> (try simp [-zd] at hb) <;> try (exfalso;omega))|refine Ob.intro ?_ ?_))
 exact ⟨Le.refl _,qa⟩
theorem qkw (op:Int):Con Try.prog 102 [iv op] (iv (if op≤3 then op else if op≤5 then 4 else 5)):=by
 refine zK {} 300 Try.func102 (fun c0 rdb=>?_)
 (repeat' ((conv=>whnf);first|refine zA ?_|refine zO ?_|refine Ob.auto ?_|refine zD 300 ?_|(apply zB <;> intro hb <;> (try simp [-zd] at hb) <;> try (exfalso;omega))|refine Ob.intro ?_ ?_))
 ·refine Le.of_eq (congrArg (AV.int _) ?_)
  rw [zb hb]
 ·refine Le.of_eq (congrArg (AV.int _) ?_)
  rw [za (by omega),zb (by omega)]
 ·refine Le.of_eq (congrArg (AV.int _) ?_)
  rw [za (by omega),za (by omega)]
end
end Go.Proofs.Ythfaleaojlnnoaa
