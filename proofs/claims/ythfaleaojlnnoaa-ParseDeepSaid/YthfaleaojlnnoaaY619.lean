/- Some texts of the library, one behind the other. -/
import Derived.Test.YthfaleaojlnnoaaY618
import Derived.Test.YthfaleaojlnnoaaY66
import Derived.Test.YthfaleaojlnnoaaY617
import Derived.Test.YthfaleaojlnnoaaY610
import Derived.Test.YthfaleaojlnnoaaY62
import Derived.Test.YthfaleaojlnnoaaY63
import Derived.Recover
import Derived.Tactics2
import Derived.Laws.Entries
set_option linter.unusedSimpArgs false
set_option linter.unusedVariables false
section
namespace Go.Proofs.Ythfaleaojlnnoaa
open Go Go.Sx Go.RowKit Go.St
set_option maxRecDepth 100000
theorem qvh (s:List UInt8):Lx.keyB s=keyF s:=by
 show (Lx.keys.any fun k=>s == k)=(Lx.keys.any fun k=>k == s)
 congr 1
 funext k
 rw [xf]
 simp only [xr]
 exact eq_comm
theorem jbc (c:Int) (h1:¬ ((65≤c∧c≤90)∨(97≤c∧c≤122))) (h2:¬ (48≤c∧c≤57)) (h3:¬ c=95):Lx.cls c≠2∧Lx.cls c≠3∧Lx.cls c≠4:=by
 unfold Lx.cls
 rw [za h1,za h2,za h3]
 split
 ·decide
 ·split
  ·decide
  ·split <;> decide
theorem jmj (b:UInt8):qij (b.toNat:Int)=decide (Lx.cls (b.toNat:Int)=2):=by
 generalize (b.toNat:Int)=c
 unfold qij
 rw [xf]
 simp only [xy,ze,zr]
 constructor
 ·intro h;unfold Lx.cls;rw [zb h]
 ·intro h
  refine Classical.byContradiction fun h1=>?_
  by_cases h2:48≤c∧c≤57
  ·unfold Lx.cls at h;rw [za h1,zb h2] at h;cases h
  ·by_cases h3:c=95
   ·unfold Lx.cls at h;rw [za h1,za h2,zb h3] at h;cases h
   ·exact (jbc c h1 h2 h3).1 h
theorem jbd (b:UInt8):qjp (b.toNat:Int)=Lx.wordB b:=by
 unfold qjp Lx.wordB Lx.isCls qij
 generalize (b.toNat:Int)=c
 rw [xf]
 simp only [xy,ze,zr,List.any_cons,List.any_nil,Bool.or_false,xr]
 by_cases h1:(65≤c∧c≤90)∨(97≤c∧c≤122)
 ·have e:Lx.cls c=2:=by unfold Lx.cls;rw [zb h1]
  exact ⟨fun _=>.inl e,fun _=>.inl (.inl h1)⟩
 by_cases h2:48≤c∧c≤57
 ·have e:Lx.cls c=3:=by unfold Lx.cls;rw [za h1,zb h2]
  exact ⟨fun _=>.inr (.inl e),fun _=>.inl (.inr h2)⟩
 by_cases h3:c=95
 ·have e:Lx.cls c=4:=by unfold Lx.cls;rw [za h1,za h2,zb h3]
  exact ⟨fun _=>.inr (.inr e),fun _=>.inr h3⟩
 ·obtain ⟨e1,e2,e3⟩:=jbc c h1 h2 h3
  constructor
  ·rintro ((h|h)|h)
   ·exact absurd h h1
   ·exact absurd h h2
   ·exact absurd h h3
  ·rintro (h|h|h)
   ·exact absurd h e1
   ·exact absurd h e2
   ·exact absurd h e3
theorem jmk (p:UInt8→Bool) (l:List UInt8):Lx.spanN p l=l.length↔∀ b∈l,p b=true:=by
 induction l with
 | nil=>simp [Lx.spanN]
 | cons b r ih=>
  simp only [Lx.spanN,zn,List.mem_cons,forall_eq_or_imp]
  cases hp:p b with
  | false=>simp
  | true=>simp [← ih];omega
theorem jml (s:List UInt8):Lx.nameB s=nameF s:=by
 cases s with
 | nil=>rfl
 | cons b r=>
  have h0:qbd (b::r) 0=(b.toNat:Int):=rfl
  rw [Lx.nameB,nameF,h0,jmj,qvh]
  rw [xf]
  generalize keyF (b::r)=kb
  simp only [ze,zr,xk,Bool.or_eq_false_iff,decide_eq_false_iff_not,Bool.not_eq_false',zu,zax]
  rw [jmk]
  constructor
  ·rintro ⟨⟨⟨h1,h2⟩,h3⟩,h4⟩
   refine ⟨⟨⟨⟨by simp,by omega⟩,h2⟩,h4⟩,fun i hi=>?_⟩
   rw [Lx.byteAt_get hi,jbd]
   exact h3 _ (xh hi)
  ·rintro ⟨⟨⟨⟨h1,h2⟩,h3⟩,h4⟩,h5⟩
   refine ⟨⟨⟨by omega,h3⟩,fun x hx=>?_⟩,h4⟩
   obtain ⟨i,hi,rfl⟩:=List.mem_iff_getElem.1 hx
   have:=h5 i hi
   rwa [Lx.byteAt_get hi,jbd] at this
theorem qet (s:List UInt8):Con Try.prog 95 [.str s] (.bool (keyF s)):=by
 rw [← qvh]
 refine zK {} 300 Try.func95 (fun c0 rdb=>?_)
 repeat' ((conv=>whnf);first|refine Ob.auto ?_|(refine Br.intro (fun hb=>?_) (fun hb=>?_))|refine Ob.intro ?_ ?_)
 all_goals first|(exfalso;simp_all;done)|(refine Le.of_eq (congrArg AV.bool ?_);simp_all [Lx.keyB,Lx.keys];done)
theorem qlv (s:List UInt8) (hs:s.length≤1000000):Con Try.prog 72 [.str s] (.bool (nameF s)):=by
 rw [← jml]
 refine zK {} 300 Try.func72 (fun c0 rdb=>?_)
 have hpos:∀ x:Bool,(!(s == []) && x)=true→0<s.length:=by
  intro x h
  cases s with
  | nil=>simp at h
  | cons b r=>simp
 repeat' ((conv=>whnf);first|(refine Ob.intro (fun h=>⟨h,by omega,by have:=hpos _ h;omega⟩) ?_)|(refine Ob.intro (by first|rfl|exact fun h=>h|exact fun h=>⟨h,trivial⟩|exact fun h=>⟨h,h,trivial⟩) ?_))
 ((conv=>whnf);refine qha (fun _=>rfl) 300 (fun _=>qqt (qbd s 0)) (by rfl) (fun hg=>by repeat' (first|exact trivial|exact Le.refl _|exact Le.cnd hg|(refine And.intro ?_ ?_))) (by kernel_rfl) ?_)
 repeat' ((conv=>whnf);first|refine Ob.auto ?_|refine Ob.intro ?_ ?_)
 (conv=>whnf)
 refine qha (fun _=>rfl) 300 (fun _=>qqu s [2,3,4] hs (by decide)) (by rfl) (fun hg=>⟨Le.cnd hg,Le.trans (Le.cnd hg) (jba 2 3 4 _ rfl rfl rfl),trivial⟩) (by kernel_rfl) ?_
 repeat' ((conv=>whnf);first|refine Ob.auto ?_|refine Ob.intro ?_ ?_)
 ((conv=>whnf);refine qha (fun _=>rfl) 300 (fun _=>qet s) (by rfl) (fun hg=>by repeat' (first|exact trivial|exact Le.refl _|exact Le.cnd hg|(refine And.intro ?_ ?_))) (by kernel_rfl) ?_)
 repeat' ((conv=>whnf);first|refine Ob.auto ?_|refine Ob.intro ?_ ?_)
 refine Le.of_eq (congrArg AV.bool ?_)
 rw [← qvh]
 cases s with
 | nil=>rfl
 | cons b r=>
  have h0:qbd (b::r) 0=(b.toNat:Int):=rfl
  have h1:Lx.spanN (Lx.isCls [2,3,4]) (b::r)=Lx.spanN Lx.wordB (b::r):=rfl
  rw [Lx.nameB,h0,h1,xf]
  generalize Lx.spanN Lx.wordB (b::r)=n
  generalize Lx.keyB (b::r)=kb
  simp only [ze,zr,xr,xk,zn]
  constructor
  ·rintro ⟨⟨⟨⟨-,h2⟩,h3⟩,h4⟩,h5⟩
   exact ⟨⟨⟨by omega,h3⟩,by omega⟩,h5⟩
  ·rintro ⟨⟨⟨h2,h3⟩,h4⟩,h5⟩
   exact ⟨⟨⟨⟨rfl,by omega⟩,h3⟩,by omega⟩,h5⟩
end Go.Proofs.Ythfaleaojlnnoaa
end
section
namespace Go.Proofs.Ythfaleaojlnnoaa
open List renaming getD_eq_getElem?_getD → zd
open Go Go.Sx Go.RowKit Go.St Pa
set_option maxRecDepth 100000
set_option maxHeartbeats 4000000
def Pa.Ps.cellsC (ts:List Lx.Tok) (p:Ps):List AV:=[Lx.toks ts,iv p.at_,iv p.deep]
section
variable {ts:List Lx.Tok} {p q r:Ps}
abbrev psc (ts:List Lx.Tok) (p:Ps):SO:=.box 52 (p.cellsC ts)
abbrev pfl (p:Ps):AV:=.ifc 26 (.agg [iv p.err,iv p.fat])
theorem qdr (he:q.err≠0→r.err=q.err∧r.fat=q.fat) (h:(q.err == 0)=false):(r.err == 0)=false∧pfl q=pfl r:=by
 have h1:q.err≠0:=by simpa using h
 obtain ⟨h2,h3⟩:=he h1
 refine ⟨by rw [h2];exact h,?_⟩
 unfold pfl
 rw [h2,h3]
theorem qaa (k:Step ts q r) (h:(q.err == 0)=false):(r.err == 0)=false∧pfl q=pfl r:=
 qdr (fun h1=>by have:=k.err h1;subst this;exact ⟨rfl,rfl⟩) h
theorem qw (h:AtOk ts p):Con Try.prog 38 [.rptr (p.cellsC ts)] (.agg (Lx.encTok (tk ts p))):=by
 have h0:=h.lo
 have h1:=h.hi
 refine zK {} 300 Try.func38 (fun c0 rdb=>?_)
 (repeat' ((conv=>whnf);first|refine zA ?_|refine zO ?_|refine Ob.auto ?_|refine zI ?_|refine zD 300 ?_|(apply zB <;> intro hb <;> (try simp [-zd] at hb) <;> try (exfalso;omega))|refine Ob.intro ?_ ?_))
 exact Le.refl _
theorem jmm (l:List (List UInt8)) (s:List UInt8) (hl:l.length≤1000000):Con Try.prog 105 [strs l,.str s] (iv (Go.St.idx (fun x=>s == x) l)):=by
 refine zK {} 300 Try.func105 (fun c0 rdb=>?_)
 (repeat' ((conv=>whnf);first|refine zA ?_|refine zO ?_|refine Ob.auto ?_|refine zD 300 ?_|(apply zB <;> intro hb <;> (try simp [-zd] at hb) <;> try (exfalso;omega))|refine Ob.intro ?_ ?_))
 ((conv=>whnf);refine qag (fun _=>rfl) 300 1 (fun i:Nat=>[(8,iv i)]) (fun _=>[]) (fun i=>i≤l.length∧∀ j,j<i→(fun x=>s == x) (l.getD j [])=false) (fun i=>l.length - i) (0) (⟨by omega,fun j hj=>absurd hj (xc j)⟩) qa qa (fun _=>rfl) (by kernel_rfl) ?_;(conv=>whnf))
 intro i hi
 by_cases hil:i<l.length
 ·(repeat' ((conv=>whnf);first|refine zA ?_|refine zO ?_|refine Ob.auto ?_|refine zI ?_|refine zD 300 ?_|(apply zB <;> intro hb <;> (try simp [-zd] at hb) <;> try (exfalso;omega))|refine Ob.intro ?_ ?_))
  ·refine Le.of_eq (congrArg (AV.int _) ?_)
   exact (qzp _ l [] i (by omega) (by simp [-zd,hb]) hi.2).symm
  ·((conv=>whnf);refine ⟨i+1,⟨by omega,quj hi.2 (by first|(simp [-zd,hb];done)|(simp [-zd,];exact hb))⟩,⟨qa,qa⟩,⟨qa,qa⟩,?_⟩;(first|omega|(dsimp only;omega)|skip))
 ·(repeat' ((conv=>whnf);first|refine zA ?_|refine zO ?_|refine Ob.auto ?_|refine zD 300 ?_|(apply zB <;> intro hb <;> (try simp [-zd] at hb) <;> try (exfalso;omega))|refine Ob.intro ?_ ?_))
  refine Le.of_eq (congrArg (AV.int _) ?_)
  exact (qzq _ l [] (fun j hj=>hi.2 j (by omega))).symm
theorem jmn {α:Type} (q:α→Bool) (l:List α):decide (0≤Go.St.idx q l)=l.any q:=by
 unfold Go.St.idx
 cases h:l.findIdx? q with
 | none=>
  rw [List.findIdx?_eq_none_iff] at h
  simp only
  rw [eq_comm,zw (by omega),List.any_eq_false]
  intro x hx
  rw [h x hx];decide
 | some i=>
  rw [List.findIdx?_eq_some_iff_getElem] at h
  obtain ⟨hi,hp,_⟩:=h
  simp only
  rw [eq_comm,zaj (by omega),List.any_eq_true]
  exact ⟨_,xh hi,hp⟩
theorem qlw (l:List (List UInt8)) (s:List UInt8) (hl:l.length≤1000000):Con Try.prog 98 [strs l,.str s] (.bool (l.any fun x=>s == x)):=by
 have hc:=jmm l s hl
 refine zK {} 300 Try.func98 (fun c0 rdb=>?_)
 (repeat' ((conv=>whnf);first|refine zA ?_|refine zO ?_|refine Ob.auto ?_|refine zC 300 (hc) ?_|refine zG 300 (fun hg=>hc) ?_|(refine CallY.con (hc) (by rfl) leA ?_)|(refine CallZ.con (fun hg=>hc) qz (by rfl) ?_)|(refine qj (fun _=>rfl) 300 (hc) qc (by (repeat' (first|exact trivial|exact Le.refl _|(refine And.intro ?_ ?_))) <;> fail) (by rfl) (by kernel_rfl) ?_)|(refine qv (fun _=>rfl) 300 (fun hg=>hc) (fun hg=>qc) (fun hg=>(by (repeat' (first|exact trivial|exact Le.refl _|exact Le.cnd hg|(refine And.intro ?_ ?_))) <;> fail)) (by rfl) (by kernel_rfl) ?_)|refine zD 300 ?_|(apply zB <;> intro hb <;> (try simp [-zd] at hb) <;> try (exfalso;omega))|refine Ob.intro ?_ ?_))
 refine Le.of_eq (congrArg AV.bool ?_)
 rw [← jmn]
 try simp [ge_iff_le]
theorem jbe (h:AtOk ts p) (l:List (List UInt8)) (hl:l.length≤1000000):Con Try.prog 84 [.rptr (p.cellsC ts),strs l] (.bool (l.any fun x=>(tk ts p).s == x)):=by
 refine zK {} 300 Try.func84 (fun c0 rdb=>?_)
 (repeat' ((conv=>whnf);first|refine zA ?_|refine zO ?_|refine Ob.auto ?_|refine zC 300 (qw h) ?_|refine zG 300 (fun hg=>qw h) ?_|(refine CallY.con (qw h) (by rfl) leA ?_)|(refine CallZ.con (fun hg=>qw h) qz (by rfl) ?_)|refine zC 300 (qlw l (tk ts p).s hl) ?_|refine zG 300 (fun hg=>qlw l (tk ts p).s hl) ?_|(refine CallY.con (qlw l (tk ts p).s hl) (by rfl) leA ?_)|(refine CallZ.con (fun hg=>qlw l (tk ts p).s hl) qz (by rfl) ?_)|(refine qj (fun _=>rfl) 300 (qw h) qc (by (repeat' (first|exact trivial|exact Le.refl _|(refine And.intro ?_ ?_))) <;> fail) (by rfl) (by kernel_rfl) ?_)|(refine qv (fun _=>rfl) 300 (fun hg=>qw h) (fun hg=>qc) (fun hg=>(by (repeat' (first|exact trivial|exact Le.refl _|exact Le.cnd hg|(refine And.intro ?_ ?_))) <;> fail)) (by rfl) (by kernel_rfl) ?_)|(refine qj (fun _=>rfl) 300 (qlw l (tk ts p).s hl) qc (by (repeat' (first|exact trivial|exact Le.refl _|(refine And.intro ?_ ?_))) <;> fail) (by rfl) (by kernel_rfl) ?_)|(refine qv (fun _=>rfl) 300 (fun hg=>qlw l (tk ts p).s hl) (fun hg=>qc) (fun hg=>(by (repeat' (first|exact trivial|exact Le.refl _|exact Le.cnd hg|(refine And.intro ?_ ?_))) <;> fail)) (by rfl) (by kernel_rfl) ?_)|refine zD 300 ?_|(apply zB <;> intro hb <;> (try simp [-zd] at hb) <;> try (exfalso;omega))|refine Ob.intro ?_ ?_))
 exact Le.refl _
theorem qhl (h:AtOk ts p) (e:Int):MTrip Try.prog 86 [.ptr 0 0,iv e] [psc ts p] false (.tup []) [] 1 (.ifc 26 (.agg [iv e,iv (tk ts p).pos])):=by
 refine qdh (T:=tab Try.prog) (C:={}) 300 (fun _=>rfl) Try.func86 rfl (by kernel_rfl) (by kernel_rfl) (fun c0 rdb mpb=>?_)
 (repeat' ((conv=>whnf);first|refine zA ?_|refine zO ?_|refine Ob.auto ?_|refine zC 300 (qw h) ?_|refine zG 300 (fun hg=>qw h) ?_|(refine CallY.con (qw h) (by rfl) leA ?_)|(refine CallZ.con (fun hg=>qw h) qz (by rfl) ?_)|(refine qj (fun _=>rfl) 300 (qw h) qc (by (repeat' (first|exact trivial|exact Le.refl _|(refine And.intro ?_ ?_))) <;> fail) (by rfl) (by kernel_rfl) ?_)|(refine qv (fun _=>rfl) 300 (fun hg=>qw h) (fun hg=>qc) (fun hg=>(by (repeat' (first|exact trivial|exact Le.refl _|exact Le.cnd hg|(refine And.intro ?_ ?_))) <;> fail)) (by rfl) (by kernel_rfl) ?_)|refine zD 300 ?_|(apply zB <;> intro hb <;> (try simp [-zd] at hb) <;> try (exfalso;omega))|refine Ob.intro ?_ ?_))
 ((conv=>whnf);refine OpG.iface (fun _=>rfl) 300 (by kernel_rfl) (by kernel_rfl) ?_)
 (repeat' ((conv=>whnf);first|refine zA ?_|refine zO ?_|refine Ob.auto ?_|refine zD 300 ?_|(apply zB <;> intro hb <;> (try simp [-zd] at hb) <;> try (exfalso;omega))|refine Ob.intro ?_ ?_))
 ((conv=>whnf);refine OpG.panic (by rfl) ?_)
 exact ⟨rfl,rfl⟩
end
end Go.Proofs.Ythfaleaojlnnoaa
end
section
namespace Go.Proofs.Ythfaleaojlnnoaa
open Go Go.Sx Go.RowKit Go.St Pa
set_option maxRecDepth 100000
set_option maxHeartbeats 4000000
theorem jmo (p q:Value) (w:World) :
  CallsD Try.prog 19 #[p,q] .returning w fun e u' w'=>e=.returned (.tuple #[])∧u'=.returning∧w'=w:=by
 refine callsD_of_wpS Try.func19 rfl fun c₀ cs hu=>?_
 apply wpS_seq
 apply wpS_region
 simp [wpOpsS,go_sem,recoverD,hu,Try.ntmps19,Exit.thenS]
 apply wpS_seq
 apply wpS_region
 simp [wpOpsS,go_sem,Exit.thenS]
 refine wpS_cond (t:=false) (by simp [Act.eval,Array.replicate]) ?_
 simp only [Bool.false_eq_true,if_false]
 refine wpS_of_wp (wp_skip ?_)
 cases c₀
 simp_all [bodyPostS,results,Try.results19]
theorem jmp {E:Env} (hT:∀ t,E.T t=tab E.P t) (n:Nat) {x:Code} {Q:Exit→Act→World→Prop} {s:ASt} (hex:exec E (fun _ _=>False) n [.code x] s) {rd:Rd} {mp:Mp} {a:Act} {w:World} (hs:SR E.c rd mp s a w) (hb:Base E rd mp) (hsz:a.tmps.size=E.fn.ntmps)
  (hq:∀ e a w,bodyPost E.P E.fn (Post E) e a w→Q e a w):x.wp E.P Q a w:=wp_mono (Q:=QK E (fun _ _=>False) []) (qbs hT n _ _ hex rd mp a w hs hb hsz) hq
abbrev lB (x:AV):SO:=.box 23 [x]
abbrev fB (e a:Int):SO:=.box 26 [iv e,iv a]
end Go.Proofs.Ythfaleaojlnnoaa
end
section
namespace Go.Proofs.Ythfaleaojlnnoaa
open List renaming getD_eq_getElem?_getD → zd
open Go Go.Sx Go.RowKit Go.St Pa
set_option maxRecDepth 100000
set_option maxHeartbeats 4000000
theorem jmq {c:Ctx} {rd:Rd} {mp:Mp} {w:World} (hstd:c.fre=stdF) (hM:Mem c rd mp [(0,lB .nils),(1,fB 0 0)] 2 w) {p q v:Value} (hp:Rel rd mp (.ptr 0 0) p) (hq:Rel rd mp (.ptr 1 0) q) {e a:Int} (hv:Rel rd mp (.ifc 26 (.agg [iv e,iv a])) v) :
  CallsD Try.prog 19 #[p,q] (.panicking [{ v:=v,recovered:=false }]) w fun en u' w'=>en=.returned (.tuple #[])∧u'=.panicking [{ v:=v,recovered:=true }]∧∃ rd',Rd.le rd rd'∧∃ mp',Mp.le mp mp'∧Mem c rd' mp' [(0,lB .nils),(1,fB e a)] 2 w':=by
 refine callsD_of_wpS Try.func19 rfl fun c₀ cs hu=>?_
 apply wpS_seq
 apply wpS_region
 simp [wpOpsS,go_sem,recoverD,hu,Try.ntmps19,Exit.thenS]
 refine wpS_of_wp ?_
 refine jmp (E:={ P:=Try.prog,T:=tab Try.prog,C:={},fn:=Try.f19,c:=c,rdb:=rd,mpb:=mp,nxb:=2,R:=fun st _ x=>Le x (.tup [])∧SubSt st [(0,lB .nils),(1,fB e a)],X:=fun _ _ _=>False }) (fun _=>rfl) 300 (s:=⟨[(0,.ptr 0 0),(1,.ptr 1 0),(2,.ifc 26 (.agg [iv e,iv a]))],[(0,lB .nils),(1,fB 0 0)],2⟩) ?_ (rd:=rd) (mp:=mp) ⟨fun t=>?_,rfl,hM⟩ ⟨Rd.le.refl _,Mp.le.refl _,fun i hi=>hM.fresh i (by rw [hstd];exact hi),hstd⟩ rfl ?_
 ·(repeat' ((conv=>whnf);first|refine zA ?_|refine zO ?_|refine Ob.auto ?_|refine zD 300 ?_|(apply zB <;> intro hb <;> (try simp [-zd] at hb) <;> try (exfalso;omega))|refine Ob.intro ?_ ?_))
  (conv=>whnf)
  refine OpG.val (fun _=>rfl) 300 (.bool true) rfl (by kernel_rfl) (fun rd mp a w hs=>?_) ?_
  ·have ho:=qbr hs (.tmp 6)
   generalize hz:a.eval (.tmp 6)=z at ho
   cases (show Rel rd mp (.ifc 26 (.agg [iv e,iv _])) z from ho) with
   | ifc _ _ _ u hu=>
    refine ⟨.bool true,?_,.bool _ _⟩
    simp only [execOp]
    rw [hz]
    simp [Act.eval,go_sem]
  (repeat' ((conv=>whnf);first|refine zA ?_|refine zO ?_|refine Ob.auto ?_|refine zD 300 ?_|(apply zB <;> intro hb <;> (try simp [-zd] at hb) <;> try (exfalso;omega))|refine Ob.intro ?_ ?_))
  (conv=>whnf)
  refine OpG.val (fun _=>rfl) 300 (.tup [.agg [iv e,iv a],.bool true]) rfl (by kernel_rfl) (fun rd mp a w hs=>?_) ?_
  ·have ho:=qbr hs (.tmp 9)
   generalize hz:a.eval (.tmp 9)=z at ho
   cases (show Rel rd mp (.ifc 26 (.agg [iv e,iv _])) z from ho) with
   | ifc _ _ _ u hu=>
    refine ⟨.tuple #[u,.bool true],?_,.tup _ _ _ rfl (fun j x v hx hv=>?_)⟩
    ·simp only [execOp]
     rw [hz]
     simp [Instr.typeAssert,go_sem]
    ·match j,hx,hv with
     | 0,hx,hv=>cases hx;cases hv;exact hu
     | 1,hx,hv=>cases hx;cases hv;exact .bool _ _
  (repeat' ((conv=>whnf);first|refine zA ?_|refine zO ?_|refine Ob.auto ?_|refine zD 300 ?_|(apply zB <;> intro hb <;> (try simp [-zd] at hb) <;> try (exfalso;omega))|refine Ob.intro ?_ ?_))
  (conv=>whnf)
  exact ⟨Le.refl _,qa⟩
 ·match t with
  | 0=>exact hp
  | 1=>exact hq
  | 2=>exact hv
  | n+3=>exact .any _ _
 ·rintro en a' w' he
  have fin:∀ (a':Act) (w':World),(a'.defers=[]∧∃ v,(results Try.f19 a'.tmps).run Try.prog w'=.ok v w'∧Post { P:=Try.prog,T:=tab Try.prog,C:={},fn:=Try.f19,c:=c,rdb:=rd,mpb:=mp,nxb:=2,R:=fun st _ x=>Le x (.tup [])∧SubSt st [(0,lB .nils),(1,fB e a)],X:=fun _ _ _=>False } (.returned v) w')→
    a'.defers=[]∧∃ u',({ c₀ with mode:=.panicking [{ v:=v,recovered:=true }] }::cs)={ c₀ with mode:=u' }::cs∧∃ v1,(results Try.f19 a'.tmps).run Try.prog w'=.ok v1 w' ∧
     (Ending.returned v1=.returned (.tuple #[])∧u'=.panicking [{ v:=v,recovered:=true }]∧∃ rd',Rd.le rd rd'∧∃ mp',Mp.le mp mp'∧Mem c rd' mp' [(0,lB .nils),(1,fB e a)] 2 w'):=by
   rintro a' w' ⟨hd,v1,hr,x,rd',mp',st,nx,⟨h1,h1'⟩,h2,h3,h4⟩
   refine ⟨hd,_,rfl,v1,hr,?_,rfl,rd',h4.rd,mp'.restrict 2,Mp.le_restrict h4.mp (fun i hi=>hM.fresh i (by rw [hstd];exact hi)),h3.sub hstd h1' rfl⟩
   have h5:=h1.rel h2
   cases h5 with
   | tup _ _ vs hs _=>
    have:vs=#[]:=Array.eq_empty_of_size_eq_zero hs
    rw [this]
  match en,he with
  | .normal,he=>exact fin a' w' he
  | .ret,he=>exact fin a' w' he
  | .panic [⟨v,false,false⟩],he=>obtain ⟨_,x,rd',mp',st,nx,h1,_⟩:=he;exact False.elim h1
end Go.Proofs.Ythfaleaojlnnoaa
end
