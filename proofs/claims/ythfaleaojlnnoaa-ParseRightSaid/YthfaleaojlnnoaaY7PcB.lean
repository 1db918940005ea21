/- Contracts of the program's parser: it takes tokens, names; it makes nodes. -/
import Derived.Test.YthfaleaojlnnoaaY715
import Derived.Test.YthfaleaojlnnoaaY71
import Derived.Test.YthfaleaojlnnoaaY72
set_option linter.unusedSimpArgs false
set_option linter.unusedVariables false
namespace Go.Proofs.Ythfaleaojlnnoaa
open List renaming getD_eq_getElem?_getD → zd
open Go Go.Sx Go.RowKit Go.St Pa
set_option maxRecDepth 100000
set_option maxHeartbeats 4000000
theorem jf {f:Nat→List AV} {v:List UInt8} (h:f 0=[.str v]):Le (.slc 1 1 f) (strs [v]):=Le.slc rfl (fun i hi=>by obtain rfl:i=0:=(by omega);exact h)
theorem qht {f:Nat→List AV} {v:Int} (h:f 0=[iv v]):Le (.slc 1 1 f) (ints [v]):=Le.slc rfl (fun i hi=>by obtain rfl:i=0:=(by omega);exact h)
structure PreC (ts:List Lx.Tok) (n:Nat) (p:Ps):Prop where
 at_:AtOk ts p
 err:p.err=0
 deep:0≤p.deep∧p.deep≤200
 left:(ts.length:Int) - p.at_≤n
section
variable {ts:List Lx.Tok} {p q r:Ps} {n:Nat}
theorem PreC.step (h:PreC ts n p) (k:Step ts p q) (he:(q.err == 0)=true):PreC ts n q:=
 ⟨k.ok h.at_,by simpa using he,by have:=h.deep;have:=k.deep;omega,by have:=h.left;have:=k.le;omega⟩
theorem qge (hk:TokK ts) (h:AtOk ts p) (he:p.err=0) {s:List UInt8} (hs:kwB s=true):Con Try.prog 84 [.rptr (p.cellsC ts),strs [s]] (.bool (sees ts p s)):=by
 have h1:=jaj h [s] (show 1≤1000000 by decide)
 rw [qcx hk h he hs]
 have e:([s].any fun x=>(tk ts p).s == x)=((tk ts p).s == s):=by simp
 rwa [e] at h1
theorem jlo (ht:ToksOk ts) (hk:TokK ts) (h:AtOk ts p) (he:p.err=0) {s:List UInt8} (hs:kwB s=true):MTrip Try.prog 61 [.ptr 0 0,strs [s]] [psc ts p] ((must ts p s).err == 0) (.tup []) [(0,psc ts (must ts p s))] 1 (pfl (must ts p s)):=by
 have h0:=h.lo
 have h1:=h.hi
 have h2:=ht.len
 refine qcw (T:=tab Try.prog) (C:={}) 300 (fun _=>rfl) Try.func61 rfl (by kernel_rfl) (by kernel_rfl) (fun c0 rdb mpb=>?_)
 (repeat' ((conv=>whnf);first|refine zA ?_|refine zO ?_|refine Ob.auto ?_|(refine Ob.intro (by (exact qv (by omega) (by omega))) ?_)|refine zC 300 (qge hk h he hs) ?_|refine zG 300 (fun hg=>qge hk h he hs) ?_|(refine CallY.con (qge hk h he hs) (by rfl) leA ?_)|(refine CallZ.con (fun hg=>qge hk h he hs) qn (by rfl) ?_)|(refine ql (fun _=>rfl) 300 (qge hk h he hs) qc (by (repeat' (first|exact trivial|exact Le.refl _|(refine And.intro ?_ ?_))) <;> fail) (by rfl) (by kernel_rfl) ?_)|(refine qp (fun _=>rfl) 300 (fun hg=>qge hk h he hs) (fun hg=>qc) (fun hg=>(by (repeat' (first|exact trivial|exact Le.refl _|exact Le.cnd hg|(refine And.intro ?_ ?_))) <;> fail)) (by rfl) (by kernel_rfl) ?_)|refine zD 300 ?_|(apply zB <;> intro hb <;> (try simp [-zd] at hb) <;> try (exfalso;omega))|refine Ob.intro ?_ ?_))
 ·have e1:must ts p s={ p with err:=11,fat:=(tk ts p).pos }:=by
   unfold must bad
   rw [za (by rw [hb];decide),zb he]
  rw [e1]
  ((conv=>whnf);exact qgd [0] (qgt h 11) rfl (⟨rfl,rfl⟩) (by kernel_rfl) (by kernel_rfl) leA qa (by exact qb rfl))
 ·have e1:must ts p s=adv p:=zb hb
  rw [e1]
  have e2:((adv p).err == 0)=true:=by show (p.err == 0)=true;rw [he];rfl
  rw [e2]
  exact ⟨rfl,Le.refl _,qa⟩
theorem jlp (ht:ToksOk ts) (hk:TokK ts) (h:AtOk ts p) (he:p.err=0) {s:List UInt8} (hs:kwB s=true):Trip Try.prog 81 [.ptr 0 0,.str s] [psc ts p] (iv (qaf ts p s)) [(0,psc ts (took ts p s))] 1:=by
 have h0:=h.lo
 have h1:=h.hi
 have h2:=ht.len
 refine zL {} 300 Try.func81 (fun c0 rdb mpb=>?_)
 (repeat' ((conv=>whnf);first|refine zA ?_|refine zO ?_|refine Ob.auto ?_|(refine Ob.intro (by (exact qv (by omega) (by omega))) ?_)|refine zD 300 ?_|(apply zB <;> intro hb <;> (try simp [-zd] at hb) <;> try (exfalso;omega))|refine Ob.intro ?_ ?_))
 ((conv=>whnf);refine ql (fun _=>rfl) 300 (qge hk h he hs) qc ⟨Le.refl _,jf rfl,trivial⟩ (by rfl) (by kernel_rfl) ?_)
 (repeat' ((conv=>whnf);first|refine zA ?_|refine zO ?_|refine Ob.auto ?_|(refine Ob.intro (by (exact qv (by omega) (by omega))) ?_)|refine zD 300 ?_|(apply zB <;> intro hb <;> (try simp [-zd] at hb) <;> try (exfalso;omega))|refine Ob.intro ?_ ?_))
 ·rw [qaf,took,za (by rw [hb];decide),za (by rw [hb];decide)]
  exact ⟨Le.refl _,qa⟩
 ·rw [qaf,took,zb hb,zb hb]
  exact ⟨Le.refl _,qa⟩
theorem jlq (ht:ToksOk ts) (h:AtOk ts p) (he:p.err=0) (hn:(tk ts p).s.length≤1000000):MTrip Try.prog 79 [.ptr 0 0] [psc ts p] ((qd ts p).err == 0) (.str (jn ts p)) [(0,psc ts (qd ts p))] 1 (pfl (qd ts p)):=by
 have h0:=h.lo
 have h1:=h.hi
 have h2:=ht.len
 refine qcw (T:=tab Try.prog) (C:={}) 300 (fun _=>rfl) Try.func79 rfl (by kernel_rfl) (by kernel_rfl) (fun c0 rdb mpb=>?_)
 (repeat' ((conv=>whnf);first|refine zA ?_|refine zO ?_|refine Ob.auto ?_|(refine Ob.intro (by (exact qv (by omega) (by omega))) ?_)|refine zC 300 (qr h) ?_|refine zG 300 (fun hg=>qr h) ?_|(refine CallY.con (qr h) (by rfl) leA ?_)|(refine CallZ.con (fun hg=>qr h) qn (by rfl) ?_)|refine zC 300 (qjf _ hn) ?_|refine zG 300 (fun hg=>qjf _ hn) ?_|(refine CallY.con (qjf _ hn) (by rfl) leA ?_)|(refine CallZ.con (fun hg=>qjf _ hn) qn (by rfl) ?_)|(refine ql (fun _=>rfl) 300 (qr h) qc (by (repeat' (first|exact trivial|exact Le.refl _|(refine And.intro ?_ ?_))) <;> fail) (by rfl) (by kernel_rfl) ?_)|(refine qp (fun _=>rfl) 300 (fun hg=>qr h) (fun hg=>qc) (fun hg=>(by (repeat' (first|exact trivial|exact Le.refl _|exact Le.cnd hg|(refine And.intro ?_ ?_))) <;> fail)) (by rfl) (by kernel_rfl) ?_)|(refine ql (fun _=>rfl) 300 (qjf _ hn) qc (by (repeat' (first|exact trivial|exact Le.refl _|(refine And.intro ?_ ?_))) <;> fail) (by rfl) (by kernel_rfl) ?_)|(refine qp (fun _=>rfl) 300 (fun hg=>qjf _ hn) (fun hg=>qc) (fun hg=>(by (repeat' (first|exact trivial|exact Le.refl _|exact Le.cnd hg|(refine And.intro ?_ ?_))) <;> fail)) (by rfl) (by kernel_rfl) ?_)|refine zD 300 ?_|(apply zB <;> intro hb <;> (try simp [-zd] at hb) <;> try (exfalso;omega))|refine Ob.intro ?_ ?_))
 ·have e:qdq ts p=false:=by
   unfold qdq
   rcases hb with hb|hb <;> simp [hb]
  have e1:qd ts p={ p with err:=11,fat:=(tk ts p).pos }:=by
   unfold qd bad
   rw [za (by rw [e];decide),zb he]
  rw [e1]
  ((conv=>whnf);exact qgd [0] (qgt h 11) rfl (⟨rfl,rfl⟩) (by kernel_rfl) (by kernel_rfl) leA qa (by exact qb rfl))
 ·have e:qdq ts p=true:=by
   unfold qdq
   simp [hb.1,hb.2,he]
  have e2:((adv p).err == 0)=true:=by show (p.err == 0)=true;rw [he];rfl
  rw [jn,qd,zb e,zb e,e2]
  exact ⟨rfl,Le.refl _,qa⟩
theorem qbc (h:AtOk ts p) (k:Int):Trip Try.prog 37 [.ptr 0 0,iv k] [psc ts p] (.ptr 1 0) [(0,psc ts p),(1,.box 78 [iv k,.nils,.nils,.nils,iv (tk ts p).pos,.nils])] 2:=by
 refine zL {} 300 Try.func37 (fun c0 rdb mpb=>?_)
 (repeat' ((conv=>whnf);first|refine zA ?_|refine zO ?_|refine Ob.auto ?_|refine zC 300 (qr h) ?_|refine zG 300 (fun hg=>qr h) ?_|(refine CallY.con (qr h) (by rfl) leA ?_)|(refine CallZ.con (fun hg=>qr h) qn (by rfl) ?_)|(refine ql (fun _=>rfl) 300 (qr h) qc (by (repeat' (first|exact trivial|exact Le.refl _|(refine And.intro ?_ ?_))) <;> fail) (by rfl) (by kernel_rfl) ?_)|(refine qp (fun _=>rfl) 300 (fun hg=>qr h) (fun hg=>qc) (fun hg=>(by (repeat' (first|exact trivial|exact Le.refl _|exact Le.cnd hg|(refine And.intro ?_ ?_))) <;> fail)) (by rfl) (by kernel_rfl) ?_)|refine zD 300 ?_|(apply zB <;> intro hb <;> (try simp [-zd] at hb) <;> try (exfalso;omega))|refine Ob.intro ?_ ?_))
 exact ⟨Le.refl _,qa⟩
theorem qle (op:Int):Con Try.prog 102 [iv op] (iv (if op≤3 then op else if op≤5 then 4 else 5)):=by
 refine zK {} 300 Try.func102 (fun c0 rdb=>?_)
 (repeat' ((conv=>whnf);first|refine zA ?_|refine zO ?_|refine Ob.auto ?_|refine zD 300 ?_|(apply zB <;> intro hb <;> (try simp [-zd] at hb) <;> try (exfalso;omega))|refine Ob.intro ?_ ?_))
 ·refine Le.of_eq (congrArg (AV.int _) ?_)
  rw [zb hb]
 ·refine Le.of_eq (congrArg (AV.int _) ?_)
  rw [za (by omega),zb (by omega)]
 ·refine Le.of_eq (congrArg (AV.int _) ?_)
  rw [za (by omega),za (by omega)]
end
end Go.Proofs.Ythfaleaojlnnoaa
