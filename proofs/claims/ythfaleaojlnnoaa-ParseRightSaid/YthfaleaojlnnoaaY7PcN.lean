/- Contract: the number that a token is. -/
import Derived.Test.YthfaleaojlnnoaaY7PcB
import Derived.Laws.RangeString
import Derived.Laws.RangeAny
import Derived.LoopTactic
import Derived.Test.YthfaleaojlnnoaaY72
set_option linter.unusedSimpArgs false
set_option linter.unusedVariables false
namespace Go.Proofs.Ythfaleaojlnnoaa
open Go Go.Sx Go.RowKit Go.St Pa
set_option maxRecDepth 100000
set_option maxHeartbeats 4000000
theorem jlr {p:Ps} (h:p.err=0):((adv p).err == 0)=true:=by show (p.err == 0)=true;rw [h];rfl
theorem jls {ts:List Lx.Tok} {p:Ps} (ht:ToksOk ts) (h:AtOk ts p) (he:p.err=0):MTrip Try.prog 80 [.ptr 0 0] [psc ts p] ((numP ts p).err == 0) (iv (numN ts p)) [(0,psc ts (numP ts p))] 1 (pfl (numP ts p)):=by
 have h0:=h.lo
 have h1:=h.hi
 have h2:=ht.len
 refine qcw (T:=tab Try.prog) (C:={}) 300 (fun _=>rfl) Try.func80 rfl (by kernel_rfl) (by kernel_rfl) (fun c0 rdb mpb=>?_)
 (repeat' ((conv=>whnf);first|refine zA ?_|refine zO ?_|refine Ob.auto ?_|(refine Ob.intro (by (exact qv (by omega) (by omega))) ?_)|refine zC 300 (qr h) ?_|refine zG 300 (fun hg=>qr h) ?_|(refine CallY.con (qr h) (by rfl) leA ?_)|(refine CallZ.con (fun hg=>qr h) qn (by rfl) ?_)|(refine ql (fun _=>rfl) 300 (qr h) qc (by (repeat' (first|exact trivial|exact Le.refl _|(refine And.intro ?_ ?_))) <;> fail) (by rfl) (by kernel_rfl) ?_)|(refine qp (fun _=>rfl) 300 (fun hg=>qr h) (fun hg=>qc) (fun hg=>(by (repeat' (first|exact trivial|exact Le.refl _|exact Le.cnd hg|(refine And.intro ?_ ?_))) <;> fail)) (by rfl) (by kernel_rfl) ?_)|refine zD 300 ?_|(apply zB <;> intro hb <;> (try simp [-List.getD_eq_getElem?_getD] at hb) <;> try (exfalso;omega))|refine Ob.intro ?_ ?_))
 ·have e:qdr ts p=false:=by
   unfold qdr
   simp [hb]
  have e1:numP ts p={ p with err:=11,fat:=(tk ts p).pos }:=by
   unfold numP bad
   rw [za (by rw [e];decide),zb he]
  rw [e1]
  ((conv=>whnf);exact qgd [0] (qgt h 11) rfl (⟨rfl,rfl⟩) (by kernel_rfl) (by kernel_rfl) leA qa (by exact qb rfl))
 have hk:(tk ts p).kind=1:=by assumption
 have e:qdr ts p=true:=by
  unfold qdr
  simp [hk,he]
 have hnum:=ht.num _ (qjb h) hk
 have hdg:=qpl hnum.2
 rw [numN,numP,zb e,zb e]
 (conv=>whnf)
 generalize (tk ts p).s=l at hnum hdg ⊢
 unfold OpG
 intro rd mp a w hs hb hsz
 have ho:=qbd hs (.tmp 22)
 generalize hz:a.eval (.tmp 22)=z at ho
 cases (show Rel rd mp (.str l) z from ho)
 have h4:=hs.slots 4
 generalize hx4:a.tmps.getD 4 undef=x4 at h4
 cases (show Rel rd mp (iv 0) x4 from h4)
 have hU:Try.prog.underlying 9=some .string:=by kernel_rfl
 refine qig (x:=.pointer (some ⟨w.heap.size,0,none⟩)) (w':=w.iter ⟨l.toArray⟩ 0) (by simp [Region.wanted]) (n:=.value (.pointer (some ⟨w.heap.size,0,none⟩))) ?_ (.inl rfl) ?_
 ·simp only [execOp]
  rw [hz]
  have:=run_range_string (P:=Try.prog) w 9 ⟨l.toArray⟩ hU
  simp [Sem.run_bind,this,Result.andThen]
 have hsz':a.tmps.size=34:=hsz
 have hby:∀ pos,(hp:pos<l.length)→∃ c:Nat,((⟨l.toArray⟩:ByteArray)[pos]'(by exact hp)).toNat=c∧48≤c∧c≤57∧qdk (l.take (pos+1))=10 * qdk (l.take pos)+((c:Int) - 48):=fun pos hp=>by
  have h7:=hnum.2 _ (xt hp)
  refine ⟨l[pos].toNat,rfl,h7.1,h7.2,?_⟩
  rw [List.take_succ_eq_append_getElem hp,qzf]
 show (Code.block 0 (Code.loop _)).wp Try.prog _ _ _
 apply wp_block
 refine wp_loop_ghost (fun m a' w'=>a'.tmps.size=34∧a'.defers=[]∧∃ pos,pos≤l.length∧m=l.length - pos∧w'=w.iter ⟨l.toArray⟩ pos∧a'.tmps.getD 4 undef=.int .i64 (qdk (l.take pos))∧a'.tmps.getD 23 undef=.pointer (some ⟨w.heap.size,0,none⟩)) l.length ⟨by rw [qdd];exact hsz',hs.defers,0,xv _,rfl,rfl,?_,?_⟩ ?_
 ·show (a.tmps.setIfInBounds 23 _).getD 4 undef=_
  simp [zx,xi] at hx4 ⊢
  exact hx4
 ·show (a.tmps.setIfInBounds 23 _).getD 23 undef=_
  simp [zx,hsz']
 rintro m ⟨⟨tl⟩,df⟩ w' ⟨h34,hdf,pos,hpos,rfl,rfl,e4,e23⟩
 match tl,h34 with
 | y0::y1::y2::y3::y4::y5::y6::y7::y8::y9::y10::y11::y12::y13::y14::y15::y16::y17::y18::y19::y20::y21::y22::y23::y24::y25::y26::y27::y28::y29::y30::y31::y32::y33::[],_=>
  have e4':y4=.int .i64 (qdk (l.take pos)):=e4
  have e23':y23=.pointer (some ⟨w.heap.size,0,none⟩):=e23
  have hdf':df=[]:=hdf
  subst e4' e23' hdf'
  clear e4 e23 hdf
  by_cases hlt:pos<l.length
  ·obtain ⟨c,hc,hc1,hc2,hcd⟩:=hby pos hlt
   have hnx:∀ ty,(Instr.next (.pointer (some ⟨w.heap.size,0,none⟩)) true ty).run Try.prog (w.iter ⟨l.toArray⟩ pos)=.ok (.tuple #[.bool true,.int .i64 pos,.int .i32 c]) (w.iter ⟨l.toArray⟩ (pos+1)):=fun ty=>by
    have:=run_next_ascii (P:=Try.prog) w ⟨l.toArray⟩ pos ty hlt (by rw [hc];omega)
    rw [hc] at this
    exact this
   apply wp_seq
   apply wp_region_list
   simp [wpList,go_sem,Act.eval,hnx]
   repeat (refine Or.inl ?_)
   apply wp_seq
   refine wp_cond_true (by simp [Act.eval]) (wp_skip ?_)
   show (Code.block 1 _).wp Try.prog _ _ _
   apply wp_block
   apply wp_seq
   apply wp_region_list
   simp [wpList,go_sem,Act.eval]
   repeat (refine Or.inl ?_)
   show (Code.region 9 _ false).wp Try.prog _ _ _
   apply wp_region_list
   simp [wpList,go_sem,Act.eval]
   repeat (refine Or.inl ?_)
   have h8:=hdg pos hpos
   have h6:(10:Int) ^ pos≤10 ^ 6:=by exact_mod_cast Nat.pow_le_pow_right (show 0<10 by decide) (show pos≤6 by omega)
   refine ⟨l.length - (pos+1),by omega,pos+1,by omega,rfl,rfl,?_⟩
   have w1:IntKind.i32.wrap ((c:Int) - 48)=(c:Int) - 48:=Sx.wrap_in (show inR .i32 _ from ⟨by show (-2147483648:Int)≤_;omega,by show _≤(2147483647:Int);omega⟩)
   have w2:IntKind.i64.wrap ((c:Int) - 48)=(c:Int) - 48:=Sx.wrap_in (qv (by omega) (by omega))
   have w3:IntKind.i64.wrap (10 * qdk (List.take pos l))=10 * qdk (List.take pos l):=Sx.wrap_in (qv (by omega) (by omega))
   rw [w1,w2,w3,hcd,Sx.wrap_in (qv (by omega) (by omega))]
  ·have hnx:∀ ty,(Instr.next (.pointer (some ⟨w.heap.size,0,none⟩)) true ty).run Try.prog (w.iter ⟨l.toArray⟩ pos)=_:=fun ty=>run_next_end w ⟨l.toArray⟩ pos ty hlt
   have hpl:pos=l.length:=by omega
   subst hpl
   apply wp_seq
   apply wp_region_list
   simp [wpList,go_sem,Act.eval,hnx]
   repeat (refine Or.inl ?_)
   apply wp_seq
   refine wp_cond_false (by simp [Act.eval]) (wp_exit ?_)
   refine qbk (E:={ P:=Try.prog,T:=tab Try.prog,C:={},fn:=Try.f80,c:=c0,rdb:=rdb,mpb:=mpb,nxb:=1,R:=mR ((adv p).err == 0) (iv (qdk l)) [(0,psc ts (adv p))],X:=mX ((adv p).err == 0) (pfl (adv p)) }) (B:=fun _ _=>False) (fun _=>rfl) 300 [.code _] ⟨[(4,iv (qdk l))],_,_⟩ ?_ rd mp _ _ ⟨fun t=>?_,rfl,hs.mem.below ((Below.refl _ _).alloc (zi _) _)⟩ hb rfl
   ·(repeat' ((conv=>whnf);first|refine zA ?_|refine zO ?_|refine Ob.auto ?_|refine zD 300 ?_|(apply zB <;> intro hb <;> (try simp [-List.getD_eq_getElem?_getD] at hb) <;> try (exfalso;omega))|refine Ob.intro ?_ ?_))
    exact ⟨jlr he,Le.refl _,qa⟩
   ·match t with
    | 0=>exact .any _ _
    | 1=>exact .any _ _
    | 2=>exact .any _ _
    | 3=>exact .any _ _
    | 4=>exact .int _ _ _
    | n+5=>exact .any _ _
end Go.Proofs.Ythfaleaojlnnoaa
