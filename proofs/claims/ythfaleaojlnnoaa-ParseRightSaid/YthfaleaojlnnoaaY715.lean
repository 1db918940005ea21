/- Some texts of the library, one behind the other. -/
import Derived.Test.YthfaleaojlnnoaaY712
import Derived.Test.YthfaleaojlnnoaaY714
import Derived.Test.YthfaleaojlnnoaaY78
import Derived.Test.YthfaleaojlnnoaaY72
import Derived.Test.YthfaleaojlnnoaaY73
import Derived.Recover
import Derived.Tactics2
import Derived.Laws.Entries
set_option linter.unusedSimpArgs false
set_option linter.unusedVariables false
section
namespace Go.Proofs.Ythfaleaojlnnoaa
open List renaming getD_eq_getElem?_getD → zd
open Go Go.Sx Go.RowKit Go.St Pa
set_option maxRecDepth 100000
set_option maxHeartbeats 4000000
def Pa.Ps.cellsC (ts:List Lx.Tok) (p:Ps):List AV:=[Lx.toks ts,iv p.at_,iv p.deep]
section
variable {ts:List Lx.Tok} {p q r:Ps}
abbrev psc (ts:List Lx.Tok) (p:Ps):SO:=.box 52 (p.cellsC ts)
abbrev pfl (p:Ps):AV:=.ifc 26 (.agg [iv p.err,iv p.fat])
theorem qde (he:q.err≠0→r.err=q.err∧r.fat=q.fat) (h:(q.err == 0)=false):(r.err == 0)=false∧pfl q=pfl r:=by
 have h1:q.err≠0:=by simpa using h
 obtain ⟨h2,h3⟩:=he h1
 refine ⟨by rw [h2];exact h,?_⟩
 unfold pfl
 rw [h2,h3]
theorem js (k:Step ts q r) (h:(q.err == 0)=false):(r.err == 0)=false∧pfl q=pfl r:=
 qde (fun h1=>by have:=k.err h1;subst this;exact ⟨rfl,rfl⟩) h
theorem qr (h:AtOk ts p):Con Try.prog 38 [.rptr (p.cellsC ts)] (.agg (Lx.encTok (tk ts p))):=by
 have h0:=h.lo
 have h1:=h.hi
 refine zK {} 300 Try.func38 (fun c0 rdb=>?_)
 (repeat' ((conv=>whnf);first|refine zA ?_|refine zO ?_|refine Ob.auto ?_|refine zI ?_|refine zD 300 ?_|(apply zB <;> intro hb <;> (try simp [-zd] at hb) <;> try (exfalso;omega))|refine Ob.intro ?_ ?_))
 exact Le.refl _
theorem jlj (l:List (List UInt8)) (s:List UInt8) (hl:l.length≤1000000):Con Try.prog 105 [strs l,.str s] (iv (Go.St.idx (fun x=>s == x) l)):=by
 refine zK {} 300 Try.func105 (fun c0 rdb=>?_)
 (repeat' ((conv=>whnf);first|refine zA ?_|refine zO ?_|refine Ob.auto ?_|refine zD 300 ?_|(apply zB <;> intro hb <;> (try simp [-zd] at hb) <;> try (exfalso;omega))|refine Ob.intro ?_ ?_))
 ((conv=>whnf);refine qbb (fun _=>rfl) 300 1 (fun i:Nat=>[(8,iv i)]) (fun _=>[]) (fun i=>i≤l.length∧∀ j,j<i→(fun x=>s == x) (l.getD j [])=false) (fun i=>l.length - i) (0) (⟨by omega,fun j hj=>absurd hj (zv j)⟩) qa qa (fun _=>rfl) (by kernel_rfl) ?_;(conv=>whnf))
 intro i hi
 by_cases hil:i<l.length
 ·(repeat' ((conv=>whnf);first|refine zA ?_|refine zO ?_|refine Ob.auto ?_|refine zI ?_|refine zD 300 ?_|(apply zB <;> intro hb <;> (try simp [-zd] at hb) <;> try (exfalso;omega))|refine Ob.intro ?_ ?_))
  ·refine Le.of_eq (congrArg (AV.int _) ?_)
   exact (qzb _ l [] i (by omega) (by simp [-zd,hb]) hi.2).symm
  ·((conv=>whnf);refine ⟨i+1,⟨by omega,qea hi.2 (by first|(simp [-zd,hb];done)|(simp [-zd,];exact hb))⟩,⟨qa,qa⟩,⟨qa,qa⟩,?_⟩;(first|omega|(dsimp only;omega)|skip))
 ·(repeat' ((conv=>whnf);first|refine zA ?_|refine zO ?_|refine Ob.auto ?_|refine zD 300 ?_|(apply zB <;> intro hb <;> (try simp [-zd] at hb) <;> try (exfalso;omega))|refine Ob.intro ?_ ?_))
  refine Le.of_eq (congrArg (AV.int _) ?_)
  exact (qzc _ l [] (fun j hj=>hi.2 j (by omega))).symm
theorem jlk {α:Type} (q:α→Bool) (l:List α):decide (0≤Go.St.idx q l)=l.any q:=by
 unfold Go.St.idx
 cases h:l.findIdx? q with
 | none=>
  rw [List.findIdx?_eq_none_iff] at h
  simp only
  rw [eq_comm,zt (by omega),List.any_eq_false]
  intro x hx
  rw [h x hx];decide
 | some i=>
  rw [List.findIdx?_eq_some_iff_getElem] at h
  obtain ⟨hi,hp,_⟩:=h
  simp only
  rw [eq_comm,xw (by omega),List.any_eq_true]
  exact ⟨_,xt hi,hp⟩
theorem qld (l:List (List UInt8)) (s:List UInt8) (hl:l.length≤1000000):Con Try.prog 98 [strs l,.str s] (.bool (l.any fun x=>s == x)):=by
 have hc:=jlj l s hl
 refine zK {} 300 Try.func98 (fun c0 rdb=>?_)
 (repeat' ((conv=>whnf);first|refine zA ?_|refine zO ?_|refine Ob.auto ?_|refine zC 300 (hc) ?_|refine zG 300 (fun hg=>hc) ?_|(refine CallY.con (hc) (by rfl) leA ?_)|(refine CallZ.con (fun hg=>hc) qn (by rfl) ?_)|(refine ql (fun _=>rfl) 300 (hc) qc (by (repeat' (first|exact trivial|exact Le.refl _|(refine And.intro ?_ ?_))) <;> fail) (by rfl) (by kernel_rfl) ?_)|(refine qp (fun _=>rfl) 300 (fun hg=>hc) (fun hg=>qc) (fun hg=>(by (repeat' (first|exact trivial|exact Le.refl _|exact Le.cnd hg|(refine And.intro ?_ ?_))) <;> fail)) (by rfl) (by kernel_rfl) ?_)|refine zD 300 ?_|(apply zB <;> intro hb <;> (try simp [-zd] at hb) <;> try (exfalso;omega))|refine Ob.intro ?_ ?_))
 refine Le.of_eq (congrArg AV.bool ?_)
 rw [← jlk]
 try simp [ge_iff_le]
theorem jaj (h:AtOk ts p) (l:List (List UInt8)) (hl:l.length≤1000000):Con Try.prog 84 [.rptr (p.cellsC ts),strs l] (.bool (l.any fun x=>(tk ts p).s == x)):=by
 refine zK {} 300 Try.func84 (fun c0 rdb=>?_)
 (repeat' ((conv=>whnf);first|refine zA ?_|refine zO ?_|refine Ob.auto ?_|refine zC 300 (qr h) ?_|refine zG 300 (fun hg=>qr h) ?_|(refine CallY.con (qr h) (by rfl) leA ?_)|(refine CallZ.con (fun hg=>qr h) qn (by rfl) ?_)|refine zC 300 (qld l (tk ts p).s hl) ?_|refine zG 300 (fun hg=>qld l (tk ts p).s hl) ?_|(refine CallY.con (qld l (tk ts p).s hl) (by rfl) leA ?_)|(refine CallZ.con (fun hg=>qld l (tk ts p).s hl) qn (by rfl) ?_)|(refine ql (fun _=>rfl) 300 (qr h) qc (by (repeat' (first|exact trivial|exact Le.refl _|(refine And.intro ?_ ?_))) <;> fail) (by rfl) (by kernel_rfl) ?_)|(refine qp (fun _=>rfl) 300 (fun hg=>qr h) (fun hg=>qc) (fun hg=>(by (repeat' (first|exact trivial|exact Le.refl _|exact Le.cnd hg|(refine And.intro ?_ ?_))) <;> fail)) (by rfl) (by kernel_rfl) ?_)|(refine ql (fun _=>rfl) 300 (qld l (tk ts p).s hl) qc (by (repeat' (first|exact trivial|exact Le.refl _|(refine And.intro ?_ ?_))) <;> fail) (by rfl) (by kernel_rfl) ?_)|(refine qp (fun _=>rfl) 300 (fun hg=>qld l (tk ts p).s hl) (fun hg=>qc) (fun hg=>(by (repeat' (first|exact trivial|exact Le.refl _|exact Le.cnd hg|(refine And.intro ?_ ?_))) <;> fail)) (by rfl) (by kernel_rfl) ?_)|refine zD 300 ?_|(apply zB <;> intro hb <;> (try simp [-zd] at hb) <;> try (exfalso;omega))|refine Ob.intro ?_ ?_))
 exact Le.refl _
theorem qgt (h:AtOk ts p) (e:Int):MTrip Try.prog 86 [.ptr 0 0,iv e] [psc ts p] false (.tup []) [] 1 (.ifc 26 (.agg [iv e,iv (tk ts p).pos])):=by
 refine qcw (T:=tab Try.prog) (C:={}) 300 (fun _=>rfl) Try.func86 rfl (by kernel_rfl) (by kernel_rfl) (fun c0 rdb mpb=>?_)
 (repeat' ((conv=>whnf);first|refine zA ?_|refine zO ?_|refine Ob.auto ?_|refine zC 300 (qr h) ?_|refine zG 300 (fun hg=>qr h) ?_|(refine CallY.con (qr h) (by rfl) leA ?_)|(refine CallZ.con (fun hg=>qr h) qn (by rfl) ?_)|(refine ql (fun _=>rfl) 300 (qr h) qc (by (repeat' (first|exact trivial|exact Le.refl _|(refine And.intro ?_ ?_))) <;> fail) (by rfl) (by kernel_rfl) ?_)|(refine qp (fun _=>rfl) 300 (fun hg=>qr h) (fun hg=>qc) (fun hg=>(by (repeat' (first|exact trivial|exact Le.refl _|exact Le.cnd hg|(refine And.intro ?_ ?_))) <;> fail)) (by rfl) (by kernel_rfl) ?_)|refine zD 300 ?_|(apply zB <;> intro hb <;> (try simp [-zd] at hb) <;> try (exfalso;omega))|refine Ob.intro ?_ ?_))
 ((conv=>whnf);refine OpG.iface (fun _=>rfl) 300 (by kernel_rfl) (by kernel_rfl) ?_)
 (repeat' ((conv=>whnf);first|refine zA ?_|refine zO ?_|refine Ob.auto ?_|refine zD 300 ?_|(apply zB <;> intro hb <;> (try simp [-zd] at hb) <;> try (exfalso;omega))|refine Ob.intro ?_ ?_))
 ((conv=>whnf);refine OpG.panic (by rfl) ?_)
 exact ⟨rfl,rfl⟩
end
end Go.Proofs.Ythfaleaojlnnoaa
end
section
namespace Go.Proofs.Ythfaleaojlnnoaa
open Go Go.Sx Go.RowKit Go.St Pa
set_option maxRecDepth 100000
set_option maxHeartbeats 4000000
theorem jll (p q:Value) (w:World) :
  CallsD Try.prog 19 #[p,q] .returning w fun e u' w'=>e=.returned (.tuple #[])∧u'=.returning∧w'=w:=by
 refine callsD_of_wpS Try.func19 rfl fun c₀ cs hu=>?_
 apply wpS_seq
 apply wpS_region
 simp [wpOpsS,go_sem,recoverD,hu,Try.ntmps19,Exit.thenS]
 apply wpS_seq
 apply wpS_region
 simp [wpOpsS,go_sem,Exit.thenS]
 refine wpS_cond (t:=false) (by simp [Act.eval,Array.replicate]) ?_
 simp only [Bool.false_eq_true,if_false]
 refine wpS_of_wp (wp_skip ?_)
 cases c₀
 simp_all [bodyPostS,results,Try.results19]
theorem jlm {E:Env} (hT:∀ t,E.T t=tab E.P t) (n:Nat) {x:Code} {Q:Exit→Act→World→Prop} {s:ASt} (hex:exec E (fun _ _=>False) n [.code x] s) {rd:Rd} {mp:Mp} {a:Act} {w:World} (hs:SR E.c rd mp s a w) (hb:Base E rd mp) (hsz:a.tmps.size=E.fn.ntmps)
  (hq:∀ e a w,bodyPost E.P E.fn (Post E) e a w→Q e a w):x.wp E.P Q a w:=wp_mono (Q:=QK E (fun _ _=>False) []) (qbk hT n _ _ hex rd mp a w hs hb hsz) hq
abbrev lB (x:AV):SO:=.box 23 [x]
abbrev fB (e a:Int):SO:=.box 26 [iv e,iv a]
end Go.Proofs.Ythfaleaojlnnoaa
end
section
namespace Go.Proofs.Ythfaleaojlnnoaa
open List renaming getD_eq_getElem?_getD → zd
open Go Go.Sx Go.RowKit Go.St Pa
set_option maxRecDepth 100000
set_option maxHeartbeats 4000000
theorem jln {c:Ctx} {rd:Rd} {mp:Mp} {w:World} (hstd:c.fre=stdF) (hM:Mem c rd mp [(0,lB .nils),(1,fB 0 0)] 2 w) {p q v:Value} (hp:Rel rd mp (.ptr 0 0) p) (hq:Rel rd mp (.ptr 1 0) q) {e a:Int} (hv:Rel rd mp (.ifc 26 (.agg [iv e,iv a])) v) :
  CallsD Try.prog 19 #[p,q] (.panicking [{ v:=v,recovered:=false }]) w fun en u' w'=>en=.returned (.tuple #[])∧u'=.panicking [{ v:=v,recovered:=true }]∧∃ rd',Rd.le rd rd'∧∃ mp',Mp.le mp mp'∧Mem c rd' mp' [(0,lB .nils),(1,fB e a)] 2 w':=by
 refine callsD_of_wpS Try.func19 rfl fun c₀ cs hu=>?_
 apply wpS_seq
 apply wpS_region
 simp [wpOpsS,go_sem,recoverD,hu,Try.ntmps19,Exit.thenS]
 refine wpS_of_wp ?_
 refine jlm (E:={ P:=Try.prog,T:=tab Try.prog,C:={},fn:=Try.f19,c:=c,rdb:=rd,mpb:=mp,nxb:=2,R:=fun st _ x=>Le x (.tup [])∧SubSt st [(0,lB .nils),(1,fB e a)],X:=fun _ _ _=>False }) (fun _=>rfl) 300 (s:=⟨[(0,.ptr 0 0),(1,.ptr 1 0),(2,.ifc 26 (.agg [iv e,iv a]))],[(0,lB .nils),(1,fB 0 0)],2⟩) ?_ (rd:=rd) (mp:=mp) ⟨fun t=>?_,rfl,hM⟩ ⟨Rd.le.refl _,Mp.le.refl _,fun i hi=>hM.fresh i (by rw [hstd];exact hi),hstd⟩ rfl ?_
 ·(repeat' ((conv=>whnf);first|refine zA ?_|refine zO ?_|refine Ob.auto ?_|refine zD 300 ?_|(apply zB <;> intro hb <;> (try simp [-zd] at hb) <;> try (exfalso;omega))|refine Ob.intro ?_ ?_))
  (conv=>whnf)
  refine OpG.val (fun _=>rfl) 300 (.bool true) rfl (by kernel_rfl) (fun rd mp a w hs=>?_) ?_
  ·have ho:=qbd hs (.tmp 6)
   generalize hz:a.eval (.tmp 6)=z at ho
   cases (show Rel rd mp (.ifc 26 (.agg [iv e,iv _])) z from ho) with
   | ifc _ _ _ u hu=>
    refine ⟨.bool true,?_,.bool _ _⟩
    simp only [execOp]
    rw [hz]
    simp [Act.eval,go_sem]
  (repeat' ((conv=>whnf);first|refine zA ?_|refine zO ?_|refine Ob.auto ?_|refine zD 300 ?_|(apply zB <;> intro hb <;> (try simp [-zd] at hb) <;> try (exfalso;omega))|refine Ob.intro ?_ ?_))
  (conv=>whnf)
  refine OpG.val (fun _=>rfl) 300 (.tup [.agg [iv e,iv a],.bool true]) rfl (by kernel_rfl) (fun rd mp a w hs=>?_) ?_
  ·have ho:=qbd hs (.tmp 9)
   generalize hz:a.eval (.tmp 9)=z at ho
   cases (show Rel rd mp (.ifc 26 (.agg [iv e,iv _])) z from ho) with
   | ifc _ _ _ u hu=>
    refine ⟨.tuple #[u,.bool true],?_,.tup _ _ _ rfl (fun j x v hx hv=>?_)⟩
    ·simp only [execOp]
     rw [hz]
     simp [Instr.typeAssert,go_sem]
    ·match j,hx,hv with
     | 0,hx,hv=>cases hx;cases hv;exact hu
     | 1,hx,hv=>cases hx;cases hv;exact .bool _ _
  (repeat' ((conv=>whnf);first|refine zA ?_|refine zO ?_|refine Ob.auto ?_|refine zD 300 ?_|(apply zB <;> intro hb <;> (try simp [-zd] at hb) <;> try (exfalso;omega))|refine Ob.intro ?_ ?_))
  (conv=>whnf)
  exact ⟨Le.refl _,qa⟩
 ·match t with
  | 0=>exact hp
  | 1=>exact hq
  | 2=>exact hv
  | n+3=>exact .any _ _
 ·rintro en a' w' he
  have fin:∀ (a':Act) (w':World),(a'.defers=[]∧∃ v,(results Try.f19 a'.tmps).run Try.prog w'=.ok v w'∧Post { P:=Try.prog,T:=tab Try.prog,C:={},fn:=Try.f19,c:=c,rdb:=rd,mpb:=mp,nxb:=2,R:=fun st _ x=>Le x (.tup [])∧SubSt st [(0,lB .nils),(1,fB e a)],X:=fun _ _ _=>False } (.returned v) w')→
    a'.defers=[]∧∃ u',({ c₀ with mode:=.panicking [{ v:=v,recovered:=true }] }::cs)={ c₀ with mode:=u' }::cs∧∃ v1,(results Try.f19 a'.tmps).run Try.prog w'=.ok v1 w' ∧
     (Ending.returned v1=.returned (.tuple #[])∧u'=.panicking [{ v:=v,recovered:=true }]∧∃ rd',Rd.le rd rd'∧∃ mp',Mp.le mp mp'∧Mem c rd' mp' [(0,lB .nils),(1,fB e a)] 2 w'):=by
   rintro a' w' ⟨hd,v1,hr,x,rd',mp',st,nx,⟨h1,h1'⟩,h2,h3,h4⟩
   refine ⟨hd,_,rfl,v1,hr,?_,rfl,rd',h4.rd,mp'.restrict 2,Mp.le_restrict h4.mp (fun i hi=>hM.fresh i (by rw [hstd];exact hi)),h3.sub hstd h1' rfl⟩
   have h5:=h1.rel h2
   cases h5 with
   | tup _ _ vs hs _=>
    have:vs=#[]:=Array.eq_empty_of_size_eq_zero hs
    rw [this]
  match en,he with
  | .normal,he=>exact fin a' w' he
  | .ret,he=>exact fin a' w' he
  | .panic [⟨v,false,false⟩],he=>obtain ⟨_,x,rd',mp',st,nx,h1,_⟩:=he;exact False.elim h1
end Go.Proofs.Ythfaleaojlnnoaa
end
