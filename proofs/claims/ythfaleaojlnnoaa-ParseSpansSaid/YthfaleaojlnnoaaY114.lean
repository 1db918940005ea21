/- Some texts of the library, one behind the other. -/
import Derived.Test.YthfaleaojlnnoaaY111
import Derived.Test.YthfaleaojlnnoaaY113
import Derived.Test.YthfaleaojlnnoaaY17
import Derived.Test.YthfaleaojlnnoaaY12
import Derived.Test.YthfaleaojlnnoaaY13
import Derived.Recover
import Derived.Tactics2
import Derived.Laws.Entries
set_option linter.unusedSimpArgs false
set_option linter.unusedVariables false
section
namespace Go.Proofs.Ythfaleaojlnnoaa
open List renaming getD_eq_getElem?_getD → zd
open Go Go.Sx Go.RowKit Go.St Pa
set_option maxRecDepth 100000
set_option maxHeartbeats 4000000
def Pa.Ps.cellsC (ts:List Lx.Tok) (p:Ps):List AV:=[Lx.toks ts,iv p.at_,iv p.deep]
section
variable {ts:List Lx.Tok} {p q r:Ps}
abbrev psc (ts:List Lx.Tok) (p:Ps):SO:=.box 52 (p.cellsC ts)
abbrev pfl (p:Ps):AV:=.ifc 26 (.agg [iv p.err,iv p.fat])
theorem qct (he:q.err≠0→r.err=q.err∧r.fat=q.fat) (h:(q.err == 0)=false):(r.err == 0)=false∧pfl q=pfl r:=by
 have h1:q.err≠0:=by simpa using h
 obtain ⟨h2,h3⟩:=he h1
 refine ⟨by rw [h2];exact h,?_⟩
 unfold pfl
 rw [h2,h3]
theorem jo (k:Step ts q r) (h:(q.err == 0)=false):(r.err == 0)=false∧pfl q=pfl r:=
 qct (fun h1=>by have:=k.err h1;subst this;exact ⟨rfl,rfl⟩) h
theorem qo (h:AtOk ts p):Con Try.prog 38 [.rptr (p.cellsC ts)] (.agg (Lx.encTok (tk ts p))):=by
 have h0:=h.lo
 have h1:=h.hi
 refine zK {} 300 Try.func38 (fun c0 rdb=>?_)
 (repeat' ((conv=>whnf);first|refine zA ?_|refine zO ?_|refine Ob.auto ?_|refine zI ?_|refine zD 300 ?_|(apply zB <;> intro hb <;> (try simp [-zd] at hb) <;> try (exfalso;omega))|refine Ob.intro ?_ ?_))
 exact Le.refl _
theorem jiu (l:List (List UInt8)) (s:List UInt8) (hl:l.length≤1000000):Con Try.prog 105 [strs l,.str s] (iv (Go.St.idx (fun x=>s == x) l)):=by
 refine zK {} 300 Try.func105 (fun c0 rdb=>?_)
 (repeat' ((conv=>whnf);first|refine zA ?_|refine zO ?_|refine Ob.auto ?_|refine zD 300 ?_|(apply zB <;> intro hb <;> (try simp [-zd] at hb) <;> try (exfalso;omega))|refine Ob.intro ?_ ?_))
 ((conv=>whnf);refine qdx (fun _=>rfl) 300 1 (fun i:Nat=>[(8,iv i)]) (fun _=>[]) (fun i=>i≤l.length∧∀ j,j<i→(fun x=>s == x) (l.getD j [])=false) (fun i=>l.length - i) (0) (⟨by omega,fun j hj=>absurd hj (xq j)⟩) qa qa (fun _=>rfl) (by kernel_rfl) ?_;(conv=>whnf))
 intro i hi
 by_cases hil:i<l.length
 ·(repeat' ((conv=>whnf);first|refine zA ?_|refine zO ?_|refine Ob.auto ?_|refine zI ?_|refine zD 300 ?_|(apply zB <;> intro hb <;> (try simp [-zd] at hb) <;> try (exfalso;omega))|refine Ob.intro ?_ ?_))
  ·refine Le.of_eq (congrArg (AV.int _) ?_)
   exact (qxl _ l [] i (by omega) (by simp [-zd,hb]) hi.2).symm
  ·((conv=>whnf);refine ⟨i+1,⟨by omega,jgy hi.2 (by first|(simp [-zd,hb];done)|(simp [-zd,];exact hb))⟩,⟨qa,qa⟩,⟨qa,qa⟩,?_⟩;(first|omega|(dsimp only;omega)|skip))
 ·(repeat' ((conv=>whnf);first|refine zA ?_|refine zO ?_|refine Ob.auto ?_|refine zD 300 ?_|(apply zB <;> intro hb <;> (try simp [-zd] at hb) <;> try (exfalso;omega))|refine Ob.intro ?_ ?_))
  refine Le.of_eq (congrArg (AV.int _) ?_)
  exact (qxm _ l [] (fun j hj=>hi.2 j (by omega))).symm
theorem jiv {α:Type} (q:α→Bool) (l:List α):decide (0≤Go.St.idx q l)=l.any q:=by
 unfold Go.St.idx
 cases h:l.findIdx? q with
 | none=>
  rw [List.findIdx?_eq_none_iff] at h
  simp only
  rw [eq_comm,zt (by omega),List.any_eq_false]
  intro x hx
  rw [h x hx];decide
 | some i=>
  rw [List.findIdx?_eq_some_iff_getElem] at h
  obtain ⟨hi,hp,_⟩:=h
  simp only
  rw [eq_comm,zal (by omega),List.any_eq_true]
  exact ⟨_,xa hi,hp⟩
theorem qke (l:List (List UInt8)) (s:List UInt8) (hl:l.length≤1000000):Con Try.prog 98 [strs l,.str s] (.bool (l.any fun x=>s == x)):=by
 have hc:=jiu l s hl
 refine zK {} 300 Try.func98 (fun c0 rdb=>?_)
 (repeat' ((conv=>whnf);first|refine zA ?_|refine zO ?_|refine Ob.auto ?_|refine zC 300 (hc) ?_|refine zG 300 (fun hg=>hc) ?_|(refine CallY.con (hc) (by rfl) leA ?_)|(refine CallZ.con (fun hg=>hc) qz (by rfl) ?_)|(refine qq (fun _=>rfl) 300 (hc) qc (by (repeat' (first|exact trivial|exact Le.refl _|(refine And.intro ?_ ?_))) <;> fail) (by rfl) (by kernel_rfl) ?_)|(refine ja (fun _=>rfl) 300 (fun hg=>hc) (fun hg=>qc) (fun hg=>(by (repeat' (first|exact trivial|exact Le.refl _|exact Le.cnd hg|(refine And.intro ?_ ?_))) <;> fail)) (by rfl) (by kernel_rfl) ?_)|refine zD 300 ?_|(apply zB <;> intro hb <;> (try simp [-zd] at hb) <;> try (exfalso;omega))|refine Ob.intro ?_ ?_))
 refine Le.of_eq (congrArg AV.bool ?_)
 rw [← jiv]
 try simp [ge_iff_le]
theorem qym (h:AtOk ts p) (l:List (List UInt8)) (hl:l.length≤1000000):Con Try.prog 84 [.rptr (p.cellsC ts),strs l] (.bool (l.any fun x=>(tk ts p).s == x)):=by
 refine zK {} 300 Try.func84 (fun c0 rdb=>?_)
 (repeat' ((conv=>whnf);first|refine zA ?_|refine zO ?_|refine Ob.auto ?_|refine zC 300 (qo h) ?_|refine zG 300 (fun hg=>qo h) ?_|(refine CallY.con (qo h) (by rfl) leA ?_)|(refine CallZ.con (fun hg=>qo h) qz (by rfl) ?_)|refine zC 300 (qke l (tk ts p).s hl) ?_|refine zG 300 (fun hg=>qke l (tk ts p).s hl) ?_|(refine CallY.con (qke l (tk ts p).s hl) (by rfl) leA ?_)|(refine CallZ.con (fun hg=>qke l (tk ts p).s hl) qz (by rfl) ?_)|(refine qq (fun _=>rfl) 300 (qo h) qc (by (repeat' (first|exact trivial|exact Le.refl _|(refine And.intro ?_ ?_))) <;> fail) (by rfl) (by kernel_rfl) ?_)|(refine ja (fun _=>rfl) 300 (fun hg=>qo h) (fun hg=>qc) (fun hg=>(by (repeat' (first|exact trivial|exact Le.refl _|exact Le.cnd hg|(refine And.intro ?_ ?_))) <;> fail)) (by rfl) (by kernel_rfl) ?_)|(refine qq (fun _=>rfl) 300 (qke l (tk ts p).s hl) qc (by (repeat' (first|exact trivial|exact Le.refl _|(refine And.intro ?_ ?_))) <;> fail) (by rfl) (by kernel_rfl) ?_)|(refine ja (fun _=>rfl) 300 (fun hg=>qke l (tk ts p).s hl) (fun hg=>qc) (fun hg=>(by (repeat' (first|exact trivial|exact Le.refl _|exact Le.cnd hg|(refine And.intro ?_ ?_))) <;> fail)) (by rfl) (by kernel_rfl) ?_)|refine zD 300 ?_|(apply zB <;> intro hb <;> (try simp [-zd] at hb) <;> try (exfalso;omega))|refine Ob.intro ?_ ?_))
 exact Le.refl _
theorem qgd (h:AtOk ts p) (e:Int):MTrip Try.prog 86 [.ptr 0 0,iv e] [psc ts p] false (.tup []) [] 1 (.ifc 26 (.agg [iv e,iv (tk ts p).pos])):=by
 refine qcm (T:=tab Try.prog) (C:={}) 300 (fun _=>rfl) Try.func86 rfl (by kernel_rfl) (by kernel_rfl) (fun c0 rdb mpb=>?_)
 (repeat' ((conv=>whnf);first|refine zA ?_|refine zO ?_|refine Ob.auto ?_|refine zC 300 (qo h) ?_|refine zG 300 (fun hg=>qo h) ?_|(refine CallY.con (qo h) (by rfl) leA ?_)|(refine CallZ.con (fun hg=>qo h) qz (by rfl) ?_)|(refine qq (fun _=>rfl) 300 (qo h) qc (by (repeat' (first|exact trivial|exact Le.refl _|(refine And.intro ?_ ?_))) <;> fail) (by rfl) (by kernel_rfl) ?_)|(refine ja (fun _=>rfl) 300 (fun hg=>qo h) (fun hg=>qc) (fun hg=>(by (repeat' (first|exact trivial|exact Le.refl _|exact Le.cnd hg|(refine And.intro ?_ ?_))) <;> fail)) (by rfl) (by kernel_rfl) ?_)|refine zD 300 ?_|(apply zB <;> intro hb <;> (try simp [-zd] at hb) <;> try (exfalso;omega))|refine Ob.intro ?_ ?_))
 ((conv=>whnf);refine OpG.iface (fun _=>rfl) 300 (by kernel_rfl) (by kernel_rfl) ?_)
 (repeat' ((conv=>whnf);first|refine zA ?_|refine zO ?_|refine Ob.auto ?_|refine zD 300 ?_|(apply zB <;> intro hb <;> (try simp [-zd] at hb) <;> try (exfalso;omega))|refine Ob.intro ?_ ?_))
 ((conv=>whnf);refine OpG.panic (by rfl) ?_)
 exact ⟨rfl,rfl⟩
end
end Go.Proofs.Ythfaleaojlnnoaa
end
section
namespace Go.Proofs.Ythfaleaojlnnoaa
open Go Go.Sx Go.RowKit Go.St Pa
set_option maxRecDepth 100000
set_option maxHeartbeats 4000000
theorem jiw (p q:Value) (w:World) :
  CallsD Try.prog 19 #[p,q] .returning w fun e u' w'=>e=.returned (.tuple #[])∧u'=.returning∧w'=w:=by
 refine callsD_of_wpS Try.func19 rfl fun c₀ cs hu=>?_
 apply wpS_seq
 apply wpS_region
 simp [wpOpsS,go_sem,recoverD,hu,Try.ntmps19,Exit.thenS]
 apply wpS_seq
 apply wpS_region
 simp [wpOpsS,go_sem,Exit.thenS]
 refine wpS_cond (t:=false) (by simp [Act.eval,Array.replicate]) ?_
 simp only [Bool.false_eq_true,if_false]
 refine wpS_of_wp (wp_skip ?_)
 cases c₀
 simp_all [bodyPostS,results,Try.results19]
theorem jix {E:Env} (hT:∀ t,E.T t=tab E.P t) (n:Nat) {x:Code} {Q:Exit→Act→World→Prop} {s:ASt} (hex:exec E (fun _ _=>False) n [.code x] s) {rd:Rd} {mp:Mp} {a:Act} {w:World} (hs:SR E.c rd mp s a w) (hb:Base E rd mp) (hsz:a.tmps.size=E.fn.ntmps)
  (hq:∀ e a w,bodyPost E.P E.fn (Post E) e a w→Q e a w):x.wp E.P Q a w:=wp_mono (Q:=QK E (fun _ _=>False) []) (qbk hT n _ _ hex rd mp a w hs hb hsz) hq
abbrev lB (x:AV):SO:=.box 23 [x]
abbrev fB (e a:Int):SO:=.box 26 [iv e,iv a]
end Go.Proofs.Ythfaleaojlnnoaa
end
