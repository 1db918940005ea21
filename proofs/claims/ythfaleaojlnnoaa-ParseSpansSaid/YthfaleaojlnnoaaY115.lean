/- Some texts of the library, one behind the other. -/
import Derived.Test.YthfaleaojlnnoaaY114
import Derived.Test.YthfaleaojlnnoaaY11
import Derived.Test.YthfaleaojlnnoaaY12
set_option linter.unusedSimpArgs false
set_option linter.unusedVariables false
section
namespace Go.Proofs.Ythfaleaojlnnoaa
open List renaming getD_eq_getElem?_getD → zd
open Go Go.Sx Go.RowKit Go.St Pa
set_option maxRecDepth 100000
set_option maxHeartbeats 4000000
theorem jiy {c:Ctx} {rd:Rd} {mp:Mp} {w:World} (hstd:c.fre=stdF) (hM:Mem c rd mp [(0,lB .nils),(1,fB 0 0)] 2 w) {p q v:Value} (hp:Rel rd mp (.ptr 0 0) p) (hq:Rel rd mp (.ptr 1 0) q) {e a:Int} (hv:Rel rd mp (.ifc 26 (.agg [iv e,iv a])) v) :
  CallsD Try.prog 19 #[p,q] (.panicking [{ v:=v,recovered:=false }]) w fun en u' w'=>en=.returned (.tuple #[])∧u'=.panicking [{ v:=v,recovered:=true }]∧∃ rd',Rd.le rd rd'∧∃ mp',Mp.le mp mp'∧Mem c rd' mp' [(0,lB .nils),(1,fB e a)] 2 w':=by
 refine callsD_of_wpS Try.func19 rfl fun c₀ cs hu=>?_
 apply wpS_seq
 apply wpS_region
 simp [wpOpsS,go_sem,recoverD,hu,Try.ntmps19,Exit.thenS]
 refine wpS_of_wp ?_
 refine jix (E:={ P:=Try.prog,T:=tab Try.prog,C:={},fn:=Try.f19,c:=c,rdb:=rd,mpb:=mp,nxb:=2,R:=fun st _ x=>Le x (.tup [])∧SubSt st [(0,lB .nils),(1,fB e a)],X:=fun _ _ _=>False }) (fun _=>rfl) 300 (s:=⟨[(0,.ptr 0 0),(1,.ptr 1 0),(2,.ifc 26 (.agg [iv e,iv a]))],[(0,lB .nils),(1,fB 0 0)],2⟩) ?_ (rd:=rd) (mp:=mp) ⟨fun t=>?_,rfl,hM⟩ ⟨Rd.le.refl _,Mp.le.refl _,fun i hi=>hM.fresh i (by rw [hstd];exact hi),hstd⟩ rfl ?_
 ·(repeat' ((conv=>whnf);first|refine zA ?_|refine zO ?_|refine Ob.auto ?_|refine zD 300 ?_|(apply zB <;> intro hb <;> (try simp [-zd] at hb) <;> try (exfalso;omega))|refine Ob.intro ?_ ?_))
  (conv=>whnf)
  refine OpG.val (fun _=>rfl) 300 (.bool true) rfl (by kernel_rfl) (fun rd mp a w hs=>?_) ?_
  ·have ho:=qay hs (.tmp 6)
   generalize hz:a.eval (.tmp 6)=z at ho
   cases (show Rel rd mp (.ifc 26 (.agg [iv e,iv _])) z from ho) with
   | ifc _ _ _ u hu=>
    refine ⟨.bool true,?_,.bool _ _⟩
    simp only [execOp]
    rw [hz]
    simp [Act.eval,go_sem]
  (repeat' ((conv=>whnf);first|refine zA ?_|refine zO ?_|refine Ob.auto ?_|refine zD 300 ?_|(apply zB <;> intro hb <;> (try simp [-zd] at hb) <;> try (exfalso;omega))|refine Ob.intro ?_ ?_))
  (conv=>whnf)
  refine OpG.val (fun _=>rfl) 300 (.tup [.agg [iv e,iv a],.bool true]) rfl (by kernel_rfl) (fun rd mp a w hs=>?_) ?_
  ·have ho:=qay hs (.tmp 9)
   generalize hz:a.eval (.tmp 9)=z at ho
   cases (show Rel rd mp (.ifc 26 (.agg [iv e,iv _])) z from ho) with
   | ifc _ _ _ u hu=>
    refine ⟨.tuple #[u,.bool true],?_,.tup _ _ _ rfl (fun j x v hx hv=>?_)⟩
    ·simp only [execOp]
     rw [hz]
     simp [Instr.typeAssert,go_sem]
    ·match j,hx,hv with
     | 0,hx,hv=>cases hx;cases hv;exact hu
     | 1,hx,hv=>cases hx;cases hv;exact .bool _ _
  (repeat' ((conv=>whnf);first|refine zA ?_|refine zO ?_|refine Ob.auto ?_|refine zD 300 ?_|(apply zB <;> intro hb <;> (try simp [-zd] at hb) <;> try (exfalso;omega))|refine Ob.intro ?_ ?_))
  (conv=>whnf)
  exact ⟨Le.refl _,qa⟩
 ·match t with
  | 0=>exact hp
  | 1=>exact hq
  | 2=>exact hv
  | n+3=>exact .any _ _
 ·rintro en a' w' he
  have fin:∀ (a':Act) (w':World),(a'.defers=[]∧∃ v,(results Try.f19 a'.tmps).run Try.prog w'=.ok v w'∧Post { P:=Try.prog,T:=tab Try.prog,C:={},fn:=Try.f19,c:=c,rdb:=rd,mpb:=mp,nxb:=2,R:=fun st _ x=>Le x (.tup [])∧SubSt st [(0,lB .nils),(1,fB e a)],X:=fun _ _ _=>False } (.returned v) w')→
    a'.defers=[]∧∃ u',({ c₀ with mode:=.panicking [{ v:=v,recovered:=true }] }::cs)={ c₀ with mode:=u' }::cs∧∃ v1,(results Try.f19 a'.tmps).run Try.prog w'=.ok v1 w' ∧
     (Ending.returned v1=.returned (.tuple #[])∧u'=.panicking [{ v:=v,recovered:=true }]∧∃ rd',Rd.le rd rd'∧∃ mp',Mp.le mp mp'∧Mem c rd' mp' [(0,lB .nils),(1,fB e a)] 2 w'):=by
   rintro a' w' ⟨hd,v1,hr,x,rd',mp',st,nx,⟨h1,h1'⟩,h2,h3,h4⟩
   refine ⟨hd,_,rfl,v1,hr,?_,rfl,rd',h4.rd,mp'.restrict 2,Mp.le_restrict h4.mp (fun i hi=>hM.fresh i (by rw [hstd];exact hi)),h3.sub hstd h1' rfl⟩
   have h5:=h1.rel h2
   cases h5 with
   | tup _ _ vs hs _=>
    have:vs=#[]:=Array.eq_empty_of_size_eq_zero hs
    rw [this]
  match en,he with
  | .normal,he=>exact fin a' w' he
  | .ret,he=>exact fin a' w' he
  | .panic [⟨v,false,false⟩],he=>obtain ⟨_,x,rd',mp',st,nx,h1,_⟩:=he;exact False.elim h1
theorem je {f:Nat→List AV} {v:List UInt8} (h:f 0=[.str v]):Le (.slc 1 1 f) (strs [v]):=Le.slc rfl (fun i hi=>by obtain rfl:i=0:=(by omega);exact h)
theorem qhb {f:Nat→List AV} {v:Int} (h:f 0=[iv v]):Le (.slc 1 1 f) (ints [v]):=Le.slc rfl (fun i hi=>by obtain rfl:i=0:=(by omega);exact h)
structure PreC (ts:List Lx.Tok) (n:Nat) (p:Ps):Prop where
 at_:AtOk ts p
 err:p.err=0
 deep:0≤p.deep∧p.deep≤200
 left:(ts.length:Int) - p.at_≤n
section
variable {ts:List Lx.Tok} {p q r:Ps} {n:Nat}
theorem PreC.step (h:PreC ts n p) (k:Step ts p q) (he:(q.err == 0)=true):PreC ts n q:=
 ⟨k.ok h.at_,by simpa using he,by have:=h.deep;have:=k.deep;omega,by have:=h.left;have:=k.le;omega⟩
theorem qfo (hk:TokK ts) (h:AtOk ts p) (he:p.err=0) {s:List UInt8} (hs:kwB s=true):Con Try.prog 84 [.rptr (p.cellsC ts),strs [s]] (.bool (sees ts p s)):=by
 have h1:=qym h [s] (show 1≤1000000 by decide)
 rw [qcn hk h he hs]
 have e:([s].any fun x=>(tk ts p).s == x)=((tk ts p).s == s):=by simp
 rwa [e] at h1
theorem jiz (ht:ToksOk ts) (hk:TokK ts) (h:AtOk ts p) (he:p.err=0) {s:List UInt8} (hs:kwB s=true):MTrip Try.prog 61 [.ptr 0 0,strs [s]] [psc ts p] ((must ts p s).err == 0) (.tup []) [(0,psc ts (must ts p s))] 1 (pfl (must ts p s)):=by
 have h0:=h.lo
 have h1:=h.hi
 have h2:=ht.len
 refine qcm (T:=tab Try.prog) (C:={}) 300 (fun _=>rfl) Try.func61 rfl (by kernel_rfl) (by kernel_rfl) (fun c0 rdb mpb=>?_)
 (repeat' ((conv=>whnf);first|refine zA ?_|refine zO ?_|refine Ob.auto ?_|(refine Ob.intro (by (exact qu (by omega) (by omega))) ?_)|refine zC 300 (qfo hk h he hs) ?_|refine zG 300 (fun hg=>qfo hk h he hs) ?_|(refine CallY.con (qfo hk h he hs) (by rfl) leA ?_)|(refine CallZ.con (fun hg=>qfo hk h he hs) qz (by rfl) ?_)|(refine qq (fun _=>rfl) 300 (qfo hk h he hs) qc (by (repeat' (first|exact trivial|exact Le.refl _|(refine And.intro ?_ ?_))) <;> fail) (by rfl) (by kernel_rfl) ?_)|(refine ja (fun _=>rfl) 300 (fun hg=>qfo hk h he hs) (fun hg=>qc) (fun hg=>(by (repeat' (first|exact trivial|exact Le.refl _|exact Le.cnd hg|(refine And.intro ?_ ?_))) <;> fail)) (by rfl) (by kernel_rfl) ?_)|refine zD 300 ?_|(apply zB <;> intro hb <;> (try simp [-zd] at hb) <;> try (exfalso;omega))|refine Ob.intro ?_ ?_))
 ·have e1:must ts p s={ p with err:=11,fat:=(tk ts p).pos }:=by
   unfold must bad
   rw [za (by rw [hb];decide),zb he]
  rw [e1]
  ((conv=>whnf);exact qfn [0] (qgd h 11) rfl (⟨rfl,rfl⟩) (by kernel_rfl) (by kernel_rfl) leA qa (by exact qb rfl))
 ·have e1:must ts p s=adv p:=zb hb
  rw [e1]
  have e2:((adv p).err == 0)=true:=by show (p.err == 0)=true;rw [he];rfl
  rw [e2]
  exact ⟨rfl,Le.refl _,qa⟩
theorem jja (ht:ToksOk ts) (hk:TokK ts) (h:AtOk ts p) (he:p.err=0) {s:List UInt8} (hs:kwB s=true):Trip Try.prog 81 [.ptr 0 0,.str s] [psc ts p] (iv (qac ts p s)) [(0,psc ts (took ts p s))] 1:=by
 have h0:=h.lo
 have h1:=h.hi
 have h2:=ht.len
 refine zL {} 300 Try.func81 (fun c0 rdb mpb=>?_)
 (repeat' ((conv=>whnf);first|refine zA ?_|refine zO ?_|refine Ob.auto ?_|(refine Ob.intro (by (exact qu (by omega) (by omega))) ?_)|refine zD 300 ?_|(apply zB <;> intro hb <;> (try simp [-zd] at hb) <;> try (exfalso;omega))|refine Ob.intro ?_ ?_))
 ((conv=>whnf);refine qq (fun _=>rfl) 300 (qfo hk h he hs) qc ⟨Le.refl _,je rfl,trivial⟩ (by rfl) (by kernel_rfl) ?_)
 (repeat' ((conv=>whnf);first|refine zA ?_|refine zO ?_|refine Ob.auto ?_|(refine Ob.intro (by (exact qu (by omega) (by omega))) ?_)|refine zD 300 ?_|(apply zB <;> intro hb <;> (try simp [-zd] at hb) <;> try (exfalso;omega))|refine Ob.intro ?_ ?_))
 ·rw [qac,took,za (by rw [hb];decide),za (by rw [hb];decide)]
  exact ⟨Le.refl _,qa⟩
 ·rw [qac,took,zb hb,zb hb]
  exact ⟨Le.refl _,qa⟩
theorem jjb (ht:ToksOk ts) (h:AtOk ts p) (he:p.err=0) (hn:(tk ts p).s.length≤1000000):MTrip Try.prog 79 [.ptr 0 0] [psc ts p] ((qd ts p).err == 0) (.str (jk ts p)) [(0,psc ts (qd ts p))] 1 (pfl (qd ts p)):=by
 have h0:=h.lo
 have h1:=h.hi
 have h2:=ht.len
 refine qcm (T:=tab Try.prog) (C:={}) 300 (fun _=>rfl) Try.func79 rfl (by kernel_rfl) (by kernel_rfl) (fun c0 rdb mpb=>?_)
 (repeat' ((conv=>whnf);first|refine zA ?_|refine zO ?_|refine Ob.auto ?_|(refine Ob.intro (by (exact qu (by omega) (by omega))) ?_)|refine zC 300 (qo h) ?_|refine zG 300 (fun hg=>qo h) ?_|(refine CallY.con (qo h) (by rfl) leA ?_)|(refine CallZ.con (fun hg=>qo h) qz (by rfl) ?_)|refine zC 300 (qkd _ hn) ?_|refine zG 300 (fun hg=>qkd _ hn) ?_|(refine CallY.con (qkd _ hn) (by rfl) leA ?_)|(refine CallZ.con (fun hg=>qkd _ hn) qz (by rfl) ?_)|(refine qq (fun _=>rfl) 300 (qo h) qc (by (repeat' (first|exact trivial|exact Le.refl _|(refine And.intro ?_ ?_))) <;> fail) (by rfl) (by kernel_rfl) ?_)|(refine ja (fun _=>rfl) 300 (fun hg=>qo h) (fun hg=>qc) (fun hg=>(by (repeat' (first|exact trivial|exact Le.refl _|exact Le.cnd hg|(refine And.intro ?_ ?_))) <;> fail)) (by rfl) (by kernel_rfl) ?_)|(refine qq (fun _=>rfl) 300 (qkd _ hn) qc (by (repeat' (first|exact trivial|exact Le.refl _|(refine And.intro ?_ ?_))) <;> fail) (by rfl) (by kernel_rfl) ?_)|(refine ja (fun _=>rfl) 300 (fun hg=>qkd _ hn) (fun hg=>qc) (fun hg=>(by (repeat' (first|exact trivial|exact Le.refl _|exact Le.cnd hg|(refine And.intro ?_ ?_))) <;> fail)) (by rfl) (by kernel_rfl) ?_)|refine zD 300 ?_|(apply zB <;> intro hb <;> (try simp [-zd] at hb) <;> try (exfalso;omega))|refine Ob.intro ?_ ?_))
 ·have e:qdh ts p=false:=by
   unfold qdh
   rcases hb with hb|hb <;> simp [hb]
  have e1:qd ts p={ p with err:=11,fat:=(tk ts p).pos }:=by
   unfold qd bad
   rw [za (by rw [e];decide),zb he]
  rw [e1]
  ((conv=>whnf);exact qfn [0] (qgd h 11) rfl (⟨rfl,rfl⟩) (by kernel_rfl) (by kernel_rfl) leA qa (by exact qb rfl))
 ·have e:qdh ts p=true:=by
   unfold qdh
   simp [hb.1,hb.2,he]
  have e2:((adv p).err == 0)=true:=by show (p.err == 0)=true;rw [he];rfl
  rw [jk,qd,zb e,zb e,e2]
  exact ⟨rfl,Le.refl _,qa⟩
theorem qax (h:AtOk ts p) (k:Int):Trip Try.prog 37 [.ptr 0 0,iv k] [psc ts p] (.ptr 1 0) [(0,psc ts p),(1,.box 78 [iv k,.nils,.nils,.nils,iv (tk ts p).pos,.nils])] 2:=by
 refine zL {} 300 Try.func37 (fun c0 rdb mpb=>?_)
 (repeat' ((conv=>whnf);first|refine zA ?_|refine zO ?_|refine Ob.auto ?_|refine zC 300 (qo h) ?_|refine zG 300 (fun hg=>qo h) ?_|(refine CallY.con (qo h) (by rfl) leA ?_)|(refine CallZ.con (fun hg=>qo h) qz (by rfl) ?_)|(refine qq (fun _=>rfl) 300 (qo h) qc (by (repeat' (first|exact trivial|exact Le.refl _|(refine And.intro ?_ ?_))) <;> fail) (by rfl) (by kernel_rfl) ?_)|(refine ja (fun _=>rfl) 300 (fun hg=>qo h) (fun hg=>qc) (fun hg=>(by (repeat' (first|exact trivial|exact Le.refl _|exact Le.cnd hg|(refine And.intro ?_ ?_))) <;> fail)) (by rfl) (by kernel_rfl) ?_)|refine zD 300 ?_|(apply zB <;> intro hb <;> (try simp [-zd] at hb) <;> try (exfalso;omega))|refine Ob.intro ?_ ?_))
 exact ⟨Le.refl _,qa⟩
theorem qkf (op:Int):Con Try.prog 102 [iv op] (iv (if op≤3 then op else if op≤5 then 4 else 5)):=by
 refine zK {} 300 Try.func102 (fun c0 rdb=>?_)
 (repeat' ((conv=>whnf);first|refine zA ?_|refine zO ?_|refine Ob.auto ?_|refine zD 300 ?_|(apply zB <;> intro hb <;> (try simp [-zd] at hb) <;> try (exfalso;omega))|refine Ob.intro ?_ ?_))
 ·refine Le.of_eq (congrArg (AV.int _) ?_)
  rw [zb hb]
 ·refine Le.of_eq (congrArg (AV.int _) ?_)
  rw [za (by omega),zb (by omega)]
 ·refine Le.of_eq (congrArg (AV.int _) ?_)
  rw [za (by omega),za (by omega)]
end
end Go.Proofs.Ythfaleaojlnnoaa
end
