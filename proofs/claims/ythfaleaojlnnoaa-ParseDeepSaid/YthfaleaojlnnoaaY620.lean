/- Some texts of the library, one behind the other. -/
import Derived.Test.YthfaleaojlnnoaaY619
import Derived.Test.YthfaleaojlnnoaaY61
import Derived.Laws.RangeString
import Derived.Laws.RangeAny
import Derived.LoopTactic
import Derived.Test.YthfaleaojlnnoaaY62
set_option linter.unusedSimpArgs false
set_option linter.unusedVariables false
section
namespace Go.Proofs.Ythfaleaojlnnoaa
open List renaming getD_eq_getElem?_getD → zd
open Go Go.Sx Go.RowKit Go.St Pa
set_option maxRecDepth 100000
set_option maxHeartbeats 4000000
theorem jj {f:Nat→List AV} {v:List UInt8} (h:f 0=[.str v]):Le (.slc 1 1 f) (strs [v]):=Le.slc rfl (fun i hi=>by obtain rfl:i=0:=(by omega);exact h)
theorem qil {f:Nat→List AV} {v:Int} (h:f 0=[iv v]):Le (.slc 1 1 f) (ints [v]):=Le.slc rfl (fun i hi=>by obtain rfl:i=0:=(by omega);exact h)
structure PreC (ts:List Lx.Tok) (n:Nat) (p:Ps):Prop where
 at_:AtOk ts p
 err:p.err=0
 deep:0≤p.deep∧p.deep≤200
 left:(ts.length:Int) - p.at_≤n
section
variable {ts:List Lx.Tok} {p q r:Ps} {n:Nat}
theorem PreC.step (h:PreC ts n p) (k:Step ts p q) (he:(q.err == 0)=true):PreC ts n q:=
 ⟨k.ok h.at_,by simpa using he,by have:=h.deep;have:=k.deep;omega,by have:=h.left;have:=k.le;omega⟩
theorem qgu (hk:TokK ts) (h:AtOk ts p) (he:p.err=0) {s:List UInt8} (hs:kwB s=true):Con Try.prog 84 [.rptr (p.cellsC ts),strs [s]] (.bool (sees ts p s)):=by
 have h1:=jbe h [s] (show 1≤1000000 by decide)
 rw [qdi hk h he hs]
 have e:([s].any fun x=>(tk ts p).s == x)=((tk ts p).s == s):=by simp
 rwa [e] at h1
theorem jmr (ht:ToksOk ts) (hk:TokK ts) (h:AtOk ts p) (he:p.err=0) {s:List UInt8} (hs:kwB s=true):MTrip Try.prog 61 [.ptr 0 0,strs [s]] [psc ts p] ((must ts p s).err == 0) (.tup []) [(0,psc ts (must ts p s))] 1 (pfl (must ts p s)):=by
 have h0:=h.lo
 have h1:=h.hi
 have h2:=ht.len
 refine qdh (T:=tab Try.prog) (C:={}) 300 (fun _=>rfl) Try.func61 rfl (by kernel_rfl) (by kernel_rfl) (fun c0 rdb mpb=>?_)
 (repeat' ((conv=>whnf);first|refine zA ?_|refine zO ?_|refine Ob.auto ?_|(refine Ob.intro (by (exact qx (by omega) (by omega))) ?_)|refine zC 300 (qgu hk h he hs) ?_|refine zG 300 (fun hg=>qgu hk h he hs) ?_|(refine CallY.con (qgu hk h he hs) (by rfl) leA ?_)|(refine CallZ.con (fun hg=>qgu hk h he hs) qz (by rfl) ?_)|(refine qj (fun _=>rfl) 300 (qgu hk h he hs) qc (by (repeat' (first|exact trivial|exact Le.refl _|(refine And.intro ?_ ?_))) <;> fail) (by rfl) (by kernel_rfl) ?_)|(refine qv (fun _=>rfl) 300 (fun hg=>qgu hk h he hs) (fun hg=>qc) (fun hg=>(by (repeat' (first|exact trivial|exact Le.refl _|exact Le.cnd hg|(refine And.intro ?_ ?_))) <;> fail)) (by rfl) (by kernel_rfl) ?_)|refine zD 300 ?_|(apply zB <;> intro hb <;> (try simp [-zd] at hb) <;> try (exfalso;omega))|refine Ob.intro ?_ ?_))
 ·have e1:must ts p s={ p with err:=11,fat:=(tk ts p).pos }:=by
   unfold must bad
   rw [za (by rw [hb];decide),zb he]
  rw [e1]
  ((conv=>whnf);exact qgt [0] (qhl h 11) rfl (⟨rfl,rfl⟩) (by kernel_rfl) (by kernel_rfl) leA qa (by exact qb rfl))
 ·have e1:must ts p s=adv p:=zb hb
  rw [e1]
  have e2:((adv p).err == 0)=true:=by show (p.err == 0)=true;rw [he];rfl
  rw [e2]
  exact ⟨rfl,Le.refl _,qa⟩
theorem jms (ht:ToksOk ts) (hk:TokK ts) (h:AtOk ts p) (he:p.err=0) {s:List UInt8} (hs:kwB s=true):Trip Try.prog 81 [.ptr 0 0,.str s] [psc ts p] (iv (js ts p s)) [(0,psc ts (took ts p s))] 1:=by
 have h0:=h.lo
 have h1:=h.hi
 have h2:=ht.len
 refine zL {} 300 Try.func81 (fun c0 rdb mpb=>?_)
 (repeat' ((conv=>whnf);first|refine zA ?_|refine zO ?_|refine Ob.auto ?_|(refine Ob.intro (by (exact qx (by omega) (by omega))) ?_)|refine zD 300 ?_|(apply zB <;> intro hb <;> (try simp [-zd] at hb) <;> try (exfalso;omega))|refine Ob.intro ?_ ?_))
 ((conv=>whnf);refine qj (fun _=>rfl) 300 (qgu hk h he hs) qc ⟨Le.refl _,jj rfl,trivial⟩ (by rfl) (by kernel_rfl) ?_)
 (repeat' ((conv=>whnf);first|refine zA ?_|refine zO ?_|refine Ob.auto ?_|(refine Ob.intro (by (exact qx (by omega) (by omega))) ?_)|refine zD 300 ?_|(apply zB <;> intro hb <;> (try simp [-zd] at hb) <;> try (exfalso;omega))|refine Ob.intro ?_ ?_))
 ·rw [js,took,za (by rw [hb];decide),za (by rw [hb];decide)]
  exact ⟨Le.refl _,qa⟩
 ·rw [js,took,zb hb,zb hb]
  exact ⟨Le.refl _,qa⟩
theorem jmt (ht:ToksOk ts) (h:AtOk ts p) (he:p.err=0) (hn:(tk ts p).s.length≤1000000):MTrip Try.prog 79 [.ptr 0 0] [psc ts p] ((qd ts p).err == 0) (.str (jd ts p)) [(0,psc ts (qd ts p))] 1 (pfl (qd ts p)):=by
 have h0:=h.lo
 have h1:=h.hi
 have h2:=ht.len
 refine qdh (T:=tab Try.prog) (C:={}) 300 (fun _=>rfl) Try.func79 rfl (by kernel_rfl) (by kernel_rfl) (fun c0 rdb mpb=>?_)
 (repeat' ((conv=>whnf);first|refine zA ?_|refine zO ?_|refine Ob.auto ?_|(refine Ob.intro (by (exact qx (by omega) (by omega))) ?_)|refine zC 300 (qw h) ?_|refine zG 300 (fun hg=>qw h) ?_|(refine CallY.con (qw h) (by rfl) leA ?_)|(refine CallZ.con (fun hg=>qw h) qz (by rfl) ?_)|refine zC 300 (qlv _ hn) ?_|refine zG 300 (fun hg=>qlv _ hn) ?_|(refine CallY.con (qlv _ hn) (by rfl) leA ?_)|(refine CallZ.con (fun hg=>qlv _ hn) qz (by rfl) ?_)|(refine qj (fun _=>rfl) 300 (qw h) qc (by (repeat' (first|exact trivial|exact Le.refl _|(refine And.intro ?_ ?_))) <;> fail) (by rfl) (by kernel_rfl) ?_)|(refine qv (fun _=>rfl) 300 (fun hg=>qw h) (fun hg=>qc) (fun hg=>(by (repeat' (first|exact trivial|exact Le.refl _|exact Le.cnd hg|(refine And.intro ?_ ?_))) <;> fail)) (by rfl) (by kernel_rfl) ?_)|(refine qj (fun _=>rfl) 300 (qlv _ hn) qc (by (repeat' (first|exact trivial|exact Le.refl _|(refine And.intro ?_ ?_))) <;> fail) (by rfl) (by kernel_rfl) ?_)|(refine qv (fun _=>rfl) 300 (fun hg=>qlv _ hn) (fun hg=>qc) (fun hg=>(by (repeat' (first|exact trivial|exact Le.refl _|exact Le.cnd hg|(refine And.intro ?_ ?_))) <;> fail)) (by rfl) (by kernel_rfl) ?_)|refine zD 300 ?_|(apply zB <;> intro hb <;> (try simp [-zd] at hb) <;> try (exfalso;omega))|refine Ob.intro ?_ ?_))
 ·have e:qdf ts p=false:=by
   unfold qdf
   rcases hb with hb|hb <;> simp [hb]
  have e1:qd ts p={ p with err:=11,fat:=(tk ts p).pos }:=by
   unfold qd bad
   rw [za (by rw [e];decide),zb he]
  rw [e1]
  ((conv=>whnf);exact qgt [0] (qhl h 11) rfl (⟨rfl,rfl⟩) (by kernel_rfl) (by kernel_rfl) leA qa (by exact qb rfl))
 ·have e:qdf ts p=true:=by
   unfold qdf
   simp [hb.1,hb.2,he]
  have e2:((adv p).err == 0)=true:=by show (p.err == 0)=true;rw [he];rfl
  rw [jd,qd,zb e,zb e,e2]
  exact ⟨rfl,Le.refl _,qa⟩
theorem qbq (h:AtOk ts p) (k:Int):Trip Try.prog 37 [.ptr 0 0,iv k] [psc ts p] (.ptr 1 0) [(0,psc ts p),(1,.box 78 [iv k,.nils,.nils,.nils,iv (tk ts p).pos,.nils])] 2:=by
 refine zL {} 300 Try.func37 (fun c0 rdb mpb=>?_)
 (repeat' ((conv=>whnf);first|refine zA ?_|refine zO ?_|refine Ob.auto ?_|refine zC 300 (qw h) ?_|refine zG 300 (fun hg=>qw h) ?_|(refine CallY.con (qw h) (by rfl) leA ?_)|(refine CallZ.con (fun hg=>qw h) qz (by rfl) ?_)|(refine qj (fun _=>rfl) 300 (qw h) qc (by (repeat' (first|exact trivial|exact Le.refl _|(refine And.intro ?_ ?_))) <;> fail) (by rfl) (by kernel_rfl) ?_)|(refine qv (fun _=>rfl) 300 (fun hg=>qw h) (fun hg=>qc) (fun hg=>(by (repeat' (first|exact trivial|exact Le.refl _|exact Le.cnd hg|(refine And.intro ?_ ?_))) <;> fail)) (by rfl) (by kernel_rfl) ?_)|refine zD 300 ?_|(apply zB <;> intro hb <;> (try simp [-zd] at hb) <;> try (exfalso;omega))|refine Ob.intro ?_ ?_))
 exact ⟨Le.refl _,qa⟩
theorem qlx (op:Int):Con Try.prog 102 [iv op] (iv (if op≤3 then op else if op≤5 then 4 else 5)):=by
 refine zK {} 300 Try.func102 (fun c0 rdb=>?_)
 (repeat' ((conv=>whnf);first|refine zA ?_|refine zO ?_|refine Ob.auto ?_|refine zD 300 ?_|(apply zB <;> intro hb <;> (try simp [-zd] at hb) <;> try (exfalso;omega))|refine Ob.intro ?_ ?_))
 ·refine Le.of_eq (congrArg (AV.int _) ?_)
  rw [zb hb]
 ·refine Le.of_eq (congrArg (AV.int _) ?_)
  rw [za (by omega),zb (by omega)]
 ·refine Le.of_eq (congrArg (AV.int _) ?_)
  rw [za (by omega),za (by omega)]
end
end Go.Proofs.Ythfaleaojlnnoaa
end
section
namespace Go.Proofs.Ythfaleaojlnnoaa
open Go Go.Sx Go.RowKit Go.St Pa
set_option maxRecDepth 100000
set_option maxHeartbeats 4000000
theorem jmu {p:Ps} (h:p.err=0):((adv p).err == 0)=true:=by show (p.err == 0)=true;rw [h];rfl
theorem jmv {ts:List Lx.Tok} {p:Ps} (ht:ToksOk ts) (h:AtOk ts p) (he:p.err=0):MTrip Try.prog 80 [.ptr 0 0] [psc ts p] ((numP ts p).err == 0) (iv (numN ts p)) [(0,psc ts (numP ts p))] 1 (pfl (numP ts p)):=by
 have h0:=h.lo
 have h1:=h.hi
 have h2:=ht.len
 refine qdh (T:=tab Try.prog) (C:={}) 300 (fun _=>rfl) Try.func80 rfl (by kernel_rfl) (by kernel_rfl) (fun c0 rdb mpb=>?_)
 (repeat' ((conv=>whnf);first|refine zA ?_|refine zO ?_|refine Ob.auto ?_|(refine Ob.intro (by (exact qx (by omega) (by omega))) ?_)|refine zC 300 (qw h) ?_|refine zG 300 (fun hg=>qw h) ?_|(refine CallY.con (qw h) (by rfl) leA ?_)|(refine CallZ.con (fun hg=>qw h) qz (by rfl) ?_)|(refine qj (fun _=>rfl) 300 (qw h) qc (by (repeat' (first|exact trivial|exact Le.refl _|(refine And.intro ?_ ?_))) <;> fail) (by rfl) (by kernel_rfl) ?_)|(refine qv (fun _=>rfl) 300 (fun hg=>qw h) (fun hg=>qc) (fun hg=>(by (repeat' (first|exact trivial|exact Le.refl _|exact Le.cnd hg|(refine And.intro ?_ ?_))) <;> fail)) (by rfl) (by kernel_rfl) ?_)|refine zD 300 ?_|(apply zB <;> intro hb <;> (try simp [-List.getD_eq_getElem?_getD] at hb) <;> try (exfalso;omega))|refine Ob.intro ?_ ?_))
 ·have e:qcu ts p=false:=by
   unfold qcu
   simp [hb]
  have e1:numP ts p={ p with err:=11,fat:=(tk ts p).pos }:=by
   unfold numP bad
   rw [za (by rw [e];decide),zb he]
  rw [e1]
  ((conv=>whnf);exact qgt [0] (qhl h 11) rfl (⟨rfl,rfl⟩) (by kernel_rfl) (by kernel_rfl) leA qa (by exact qb rfl))
 have hk:(tk ts p).kind=1:=by assumption
 have e:qcu ts p=true:=by
  unfold qcu
  simp [hk,he]
 have hnum:=ht.num _ (qhh h) hk
 have hdg:=qlm hnum.2
 rw [numN,numP,zb e,zb e]
 (conv=>whnf)
 generalize (tk ts p).s=l at hnum hdg ⊢
 unfold OpG
 intro rd mp a w hs hb hsz
 have ho:=qbr hs (.tmp 22)
 generalize hz:a.eval (.tmp 22)=z at ho
 cases (show Rel rd mp (.str l) z from ho)
 have h4:=hs.slots 4
 generalize hx4:a.tmps.getD 4 undef=x4 at h4
 cases (show Rel rd mp (iv 0) x4 from h4)
 have hU:Try.prog.underlying 9=some .string:=by kernel_rfl
 refine qjc (x:=.pointer (some ⟨w.heap.size,0,none⟩)) (w':=w.iter ⟨l.toArray⟩ 0) (by simp [Region.wanted]) (n:=.value (.pointer (some ⟨w.heap.size,0,none⟩))) ?_ (.inl rfl) ?_
 ·simp only [execOp]
  rw [hz]
  have:=run_range_string (P:=Try.prog) w 9 ⟨l.toArray⟩ hU
  simp [Sem.run_bind,this,Result.andThen]
 have hsz':a.tmps.size=34:=hsz
 have hby:∀ pos,(hp:pos<l.length)→∃ c:Nat,((⟨l.toArray⟩:ByteArray)[pos]'(by exact hp)).toNat=c∧48≤c∧c≤57∧qdg (l.take (pos+1))=10 * qdg (l.take pos)+((c:Int) - 48):=fun pos hp=>by
  have h7:=hnum.2 _ (xh hp)
  refine ⟨l[pos].toNat,rfl,h7.1,h7.2,?_⟩
  rw [zae hp,qul]
 show (Code.block 0 (Code.loop _)).wp Try.prog _ _ _
 apply wp_block
 refine wp_loop_ghost (fun m a' w'=>a'.tmps.size=34∧a'.defers=[]∧∃ pos,pos≤l.length∧m=l.length - pos∧w'=w.iter ⟨l.toArray⟩ pos∧a'.tmps.getD 4 undef=.int .i64 (qdg (l.take pos))∧a'.tmps.getD 23 undef=.pointer (some ⟨w.heap.size,0,none⟩)) l.length ⟨by rw [qdq];exact hsz',hs.defers,0,xa _,rfl,rfl,?_,?_⟩ ?_
 ·show (a.tmps.setIfInBounds 23 _).getD 4 undef=_
  simp [xb,xq] at hx4 ⊢
  exact hx4
 ·show (a.tmps.setIfInBounds 23 _).getD 23 undef=_
  simp [xb,hsz']
 rintro m ⟨⟨tl⟩,df⟩ w' ⟨h34,hdf,pos,hpos,rfl,rfl,e4,e23⟩
 match tl,h34 with
 | y0::y1::y2::y3::y4::y5::y6::y7::y8::y9::y10::y11::y12::y13::y14::y15::y16::y17::y18::y19::y20::y21::y22::y23::y24::y25::y26::y27::y28::y29::y30::y31::y32::y33::[],_=>
  have e4':y4=.int .i64 (qdg (l.take pos)):=e4
  have e23':y23=.pointer (some ⟨w.heap.size,0,none⟩):=e23
  have hdf':df=[]:=hdf
  subst e4' e23' hdf'
  clear e4 e23 hdf
  by_cases hlt:pos<l.length
  ·obtain ⟨c,hc,hc1,hc2,hcd⟩:=hby pos hlt
   have hnx:∀ ty,(Instr.next (.pointer (some ⟨w.heap.size,0,none⟩)) true ty).run Try.prog (w.iter ⟨l.toArray⟩ pos)=.ok (.tuple #[.bool true,.int .i64 pos,.int .i32 c]) (w.iter ⟨l.toArray⟩ (pos+1)):=fun ty=>by
    have:=run_next_ascii (P:=Try.prog) w ⟨l.toArray⟩ pos ty hlt (by rw [hc];omega)
    rw [hc] at this
    exact this
   apply wp_seq
   apply wp_region_list
   simp [wpList,go_sem,Act.eval,hnx]
   repeat (refine Or.inl ?_)
   apply wp_seq
   refine wp_cond_true (by simp [Act.eval]) (wp_skip ?_)
   show (Code.block 1 _).wp Try.prog _ _ _
   apply wp_block
   apply wp_seq
   apply wp_region_list
   simp [wpList,go_sem,Act.eval]
   repeat (refine Or.inl ?_)
   show (Code.region 9 _ false).wp Try.prog _ _ _
   apply wp_region_list
   simp [wpList,go_sem,Act.eval]
   repeat (refine Or.inl ?_)
   have h8:=hdg pos hpos
   have h6:(10:Int) ^ pos≤10 ^ 6:=by exact_mod_cast Nat.pow_le_pow_right (show 0<10 by decide) (show pos≤6 by omega)
   refine ⟨l.length - (pos+1),by omega,pos+1,by omega,rfl,rfl,?_⟩
   have w1:IntKind.i32.wrap ((c:Int) - 48)=(c:Int) - 48:=Sx.wrap_in (show inR .i32 _ from ⟨by show (-2147483648:Int)≤_;omega,by show _≤(2147483647:Int);omega⟩)
   have w2:IntKind.i64.wrap ((c:Int) - 48)=(c:Int) - 48:=Sx.wrap_in (qx (by omega) (by omega))
   have w3:IntKind.i64.wrap (10 * qdg (List.take pos l))=10 * qdg (List.take pos l):=Sx.wrap_in (qx (by omega) (by omega))
   rw [w1,w2,w3,hcd,Sx.wrap_in (qx (by omega) (by omega))]
  ·have hnx:∀ ty,(Instr.next (.pointer (some ⟨w.heap.size,0,none⟩)) true ty).run Try.prog (w.iter ⟨l.toArray⟩ pos)=_:=fun ty=>run_next_end w ⟨l.toArray⟩ pos ty hlt
   have hpl:pos=l.length:=by omega
   subst hpl
   apply wp_seq
   apply wp_region_list
   simp [wpList,go_sem,Act.eval,hnx]
   repeat (refine Or.inl ?_)
   apply wp_seq
   refine wp_cond_false (by simp [Act.eval]) (wp_exit ?_)
   refine qbs (E:={ P:=Try.prog,T:=tab Try.prog,C:={},fn:=Try.f80,c:=c0,rdb:=rdb,mpb:=mpb,nxb:=1,R:=mR ((adv p).err == 0) (iv (qdg l)) [(0,psc ts (adv p))],X:=mX ((adv p).err == 0) (pfl (adv p)) }) (B:=fun _ _=>False) (fun _=>rfl) 300 [.code _] ⟨[(4,iv (qdg l))],_,_⟩ ?_ rd mp _ _ ⟨fun t=>?_,rfl,hs.mem.below ((Below.refl _ _).alloc (zh _) _)⟩ hb rfl
   ·(repeat' ((conv=>whnf);first|refine zA ?_|refine zO ?_|refine Ob.auto ?_|refine zD 300 ?_|(apply zB <;> intro hb <;> (try simp [-List.getD_eq_getElem?_getD] at hb) <;> try (exfalso;omega))|refine Ob.intro ?_ ?_))
    exact ⟨jmu he,Le.refl _,qa⟩
   ·match t with
    | 0=>exact .any _ _
    | 1=>exact .any _ _
    | 2=>exact .any _ _
    | 3=>exact .any _ _
    | 4=>exact .int _ _ _
    | n+5=>exact .any _ _
end Go.Proofs.Ythfaleaojlnnoaa
end
