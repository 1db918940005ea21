/- The contract of the program's parser. -/
import Derived.Test.YthfaleaojlnnoaaY715
import Derived.Test.YthfaleaojlnnoaaY7PcZ
import Derived.Test.YthfaleaojlnnoaaY7PcF
import Derived.Test.YthfaleaojlnnoaaY735
import Derived.Test.YthfaleaojlnnoaaY7PgQ
import Derived.Test.YthfaleaojlnnoaaY7PaB
import Derived.Test.YthfaleaojlnnoaaY712
import Derived.Test.YthfaleaojlnnoaaY72
set_option linter.unusedSimpArgs false
set_option linter.unusedVariables false
namespace Go.Proofs.Ythfaleaojlnnoaa
open List renaming getD_eq_getElem?_getD → zd
open Go Go.Sx Go.RowKit Go.St Pa
set_option maxRecDepth 100000
set_option maxHeartbeats 8000000
theorem jch {s:List UInt8} (h:(Lx.lexAll s).2.1=0):(Lx.lexAll s).2.2=0:=by
 unfold Lx.lexAll at h ⊢
 split at h
 ·simp at h
 ·rename_i hs
  rw [za hs]
  split at h
  ·rfl
  ·simp at h
noncomputable abbrev pfn:Func:=Try.f11
noncomputable abbrev EA (c:Ctx) (rdb:Rd):Env:={ P:=Try.prog,T:=tab Try.prog,C:={},fn:=pfn,c:=c,rdb:=rdb,mpb:=Mp.none,nxb:=0,R:=fun _ _ _=>False,X:=fun _ _ _=>False }
noncomputable abbrev EF (c:Ctx) (rdb:Rd) (res:AV):Env:={ P:=Try.prog,T:=tab Try.prog,C:={},fn:=pfn,c:=c,rdb:=rdb,mpb:=Mp.none,nxb:=0,R:=conR res,X:=fun _ _ _=>False }
noncomputable abbrev E1 (c:Ctx) (rd1:Rd) (mp1:Mp) (z:Ps):Env:={ P:=Try.prog,T:=tab Try.prog,C:={},fn:=pfn,c:=c,rdb:=rd1,mpb:=mp1,nxb:=2,R:=fun _ _ _=>False,X:=fun st _ x=>(x=pfl z∧z.err≠0)∧SubSt st [(0,lB .nils),(1,fB 0 0)] }
abbrev dfr (p q:Value):Deferred:={ target:=.fn (.func 19) #[p,q],args:=#[] }
abbrev I1 (p2 p3:Value):Act→Prop:=fun a=>a.tmps.getD 2 undef=p2∧a.tmps.getD 3 undef=p3
theorem qqo {rd:Rd} {mp:Mp} {i n:Nat} {p:Value} (h:Rel rd mp (.ptr i 0) p) (hi:i<n):Rel rd (mp.restrict n) (.ptr i 0) p:=by
 cases h with
 | ptr _ _ _ blk hb=>exact .ptr _ _ _ _ (by unfold Mp.restrict;simp only [zb hi];exact hb)
theorem restrict_le {mp:Mp} {n:Nat}:Mp.le (mp.restrict n) mp:=by
 refine ⟨fun i g hg=>?_,fun r i v e m hr=>?_⟩
 ·unfold Mp.restrict at hg
  simp only at hg
  split at hg
  ·exact hg
  ·cases hg
 ·unfold Mp.restrict at hr
  simp only at hr
  split at hr
  ·exact ⟨v,e,m,hr,.inr ⟨rfl,.inr ⟨rfl,rfl⟩⟩⟩
  ·cases hr
theorem joz {c:Ctx} {rdb:Rd} {z:Ps} {ops:Array Oper} {ty:TypeId} {pos:String} {aft:Array Edge} {ats:Array TypeId} {Q:Exit→Act→World→Prop} {s:ASt} (hfn:ev s (.tmp 15)=.fn 19 [.ptr 0 0,.ptr 1 0]) (h2:s.get 2=.ptr 0 0) (h3:s.get 3=.ptr 1 0)
  (h:∀ rd1 mp1 p q p2 p3,Rel rd1 mp1 (.ptr 0 0) p→Rel rd1 mp1 (.ptr 1 0) q→Rel rd1 mp1 (.ptr 0 0) p2→Rel rd1 mp1 (.ptr 1 0) p3→Rd.le rdb rd1→StC (E1 c rd1 mp1 z) [dfr p q] (I1 p2 p3) (Q .normal) s) :
  StC (EA c rdb) [] (fun _=>True) (wpList Try.prog ops Q [⟨none,.defer { callee:=.value (.tmp 15),args:=#[],argTypes:=ats },ty,pos,aft,none⟩]) s:=by
 unfold StC
 intro rd mp a w hs hd _ hb hsz
 have ho:=qbd hs (.tmp 15)
 rw [hfn] at ho
 have e2:=hs.slots 2
 have e3:=hs.slots 3
 rw [h2] at e2
 rw [h3] at e3
 generalize hz:(bare a).eval (.tmp 15)=y at ho
 cases ho with
 | fn _ _ _ vs hvs he=>
  obtain ⟨p,q,rfl⟩:∃ p q,vs=#[p,q]:=by
   obtain ⟨l⟩:=vs
   match l,hvs with
   | [p,q],_=>exact ⟨p,q,rfl⟩
  have hp:=he 0 _ p rfl rfl
  have hq:=he 1 _ q rfl rfl
  have key:=h rd (mp.restrict 2) p q _ _ (qqo hp (by decide)) (qqo hq (by decide)) (qqo e2 (by decide)) (qqo e3 (by decide)) hb.rd
  unfold StC at key
  have k2:=key rd mp { a with defers:=[dfr p q] } w hs rfl ⟨rfl,rfl⟩ ⟨Rd.le.refl _,restrict_le,fun i hi=>by
   unfold Mp.restrict
   exact ⟨za (by show ¬ i<2;have:2≤i:=hi;omega),fun j=>za (by have:2≤i:=hi;omega)⟩,hb.std⟩ hsz
  unfold wpList
  rw [zb (by simp [Region.wanted])]
  left
  unfold Oper.wp
  have e:(execOp a.eval ⟨none,.defer { callee:=.value (.tmp 15),args:=#[],argTypes:=ats },ty,pos,aft,none⟩).run Try.prog w=.ok (.defer (dfr p q)) w:=by
   have hz':a.eval (.tmp 15)=.func (.func 19) #[] #[p,q]:=hz
   simp only [execOp]
   simp [resolve,hz',Deferred.ofValue,Sem.run_bind,Sem.run,Result.andThen]
  rw [e,Oper.upon_defer]
  unfold wpList
  have:({ a with defers:=dfr p q::a.defers }:Act).put none undef={ a with defers:=[dfr p q] }:=by rw [hd];rfl
  show Q .normal (Act.put { a with defers:=dfr p q::a.defers } none undef) w
  rw [this]
  exact k2
theorem jpa {v:Value}:settle (.panicking [{ v:=v,recovered:=true }])=.returning:=rfl
theorem jpb {c:Ctx} {rdb rd1:Rd} {mp1:Mp} {z:Ps} {p q p2 p3:Value} {res:AV} (hr1:Rd.le rdb rd1) (hp:Rel rd1 mp1 (.ptr 0 0) p) (hq:Rel rd1 mp1 (.ptr 1 0) q) (hp2:Rel rd1 mp1 (.ptr 0 0) p2) (hp3:Rel rd1 mp1 (.ptr 1 0) p3) (hres:z.err≠0→RetG (EF c rdb res) ⟨[(2,.ptr 0 0),(3,.ptr 1 0)],[(0,lB .nils),(1,fB z.err z.fat)],2⟩)
  (ch:List PanicEntry) (a:Act) (w:World) (hd:a.defers=[dfr p q]) (hI:I1 p2 p3 (bare a)) (hP:Post (E1 c rd1 mp1 z) (.panicked ch) w):bodyPostD Try.prog pfn (Post (EF c rdb res)) (.panic ch) a w:=by
 match ch,hP with
 | [⟨v,false,false⟩],hP=>
  obtain ⟨x,rd',mp',st,nx,⟨⟨rfl,hne⟩,hsub⟩,h2,h3,h4⟩:=hP
  show Leaves Try.prog pfn a.tmps (Post (EF c rdb res)) a.defers (.panicking [⟨v,false,false⟩]) w
  rw [hd]
  have hM:=h3.sub h4.std (st':=[(0,lB .nils),(1,fB 0 0)]) hsub (nx':=2) rfl
  have hle:Mp.le mp1 (mp'.restrict 2):=Mp.le_restrict h4.mp h4.low
  have up:∀ {x y},Rel rd1 mp1 x y→Rel rd' (mp'.restrict 2) x y:=fun h=>h.mono h4.rd hle
  refine leaves_cons (f:=19) (args:=#[p,q]) (by simp) (by simp [go_sem]) ?_
  refine (jln h4.std hM (up hp) (up hq) (e:=z.err) (a:=z.fat) (h2.ifcP rfl)).mono ?_
  rintro e u' w' ⟨rfl,rfl,rd2,g1,mp2,g2,g3⟩
  show Leaves Try.prog pfn a.tmps (Post (EF c rdb res)) [] (settle (.panicking [{ v:=v,recovered:=true }])) w'
  rw [jpa]
  have hsr:SR (EF c rdb res).c rd2 mp2 ⟨[(2,.ptr 0 0),(3,.ptr 1 0)],[(0,lB .nils),(1,fB z.err z.fat)],2⟩ (bare a) w':=by
   refine ⟨fun t=>?_,rfl,g3⟩
   match t with
   | 0=>exact .any _ _
   | 1=>exact .any _ _
   | 2=>rw [hI.1];exact (up hp2).mono g1 g2
   | 3=>rw [hI.2];exact (up hp3).mono g1 g2
   | n+4=>exact .any _ _
  obtain ⟨_,v1,k1,k2⟩:=qif (E:=EF c rdb res) (fun _=>rfl) (hres hne) hsr ⟨hr1.trans (h4.rd.trans g1),Mp.none_le _,fun _ _=>⟨rfl,fun _=>rfl⟩,h4.std⟩
  exact ⟨v1,k1,k2⟩
theorem jci {c:Ctx} {rdb rd1:Rd} {mp1:Mp} {z:Ps} {p q:Value} {I:Act→Prop} {res:AV} {s:ASt} (hr1:Rd.le rdb rd1) (h:RetG (EF c rdb res) s):StC (E1 c rd1 mp1 z) [dfr p q] I (bodyPostD Try.prog pfn (Post (EF c rdb res)) .ret) s:=by
 unfold StC
 intro rd mp a w hs hd ha hb hsz
 show Leaves Try.prog pfn a.tmps (Post (EF c rdb res)) a.defers .returning w
 rw [hd]
 refine leaves_cons (f:=19) (args:=#[p,q]) (by simp) (by simp [go_sem]) ?_
 refine (jll p q w).mono ?_
 rintro e u' w' ⟨rfl,rfl,rfl⟩
 show Leaves Try.prog pfn a.tmps (Post (EF c rdb res)) [] (settle .returning) w'
 obtain ⟨_,v,h1,h2⟩:=qif (E:=EF c rdb res) (fun _=>rfl) h hs ⟨hr1.trans hb.rd,Mp.none_le _,fun _ _=>⟨rfl,fun _=>rfl⟩,hb.std⟩
 exact ⟨v,h1,h2⟩
theorem jpc:∀ (n:Nat) (l:List UInt8) (p:Nat) (ts:List Lx.Tok),l.length≤n→Lx.lexR l p=.ok ts→∀ t∈ts,t.s.length≤n:=by
 intro n
 induction n with
 | zero=>
  intro l p ts hl h
  obtain rfl:l=[]:=List.length_eq_zero_iff.1 (by omega)
  rw [Lx.lexR_nil] at h
  cases h
  intro t ht
  rw [List.mem_singleton.1 ht]
  exact zi _
 | succ n ih=>
  intro l p ts hl h
  cases l with
  | nil=>
   rw [Lx.lexR_nil] at h
   cases h
   intro t ht
   rw [List.mem_singleton.1 ht]
   exact xv _
  | cons b r=>
   have hr:r.length≤n:=by simpa using hl
   rw [Lx.lexR_cons] at h
   split at h
   ·exact fun t ht=>Nat.le_succ_of_le (ih r _ ts hr h t ht)
   split at h
   ·exact fun t ht=>Nat.le_succ_of_le (ih (r.drop (Lx.lineN r)) _ ts (by rw [zr];omega) h t ht)
   split at h
   ·cases h
   ·cases hx:Lx.lexR (r.drop (Lx.firstN (b::r) - 1)) (p+Lx.firstN (b::r)) with
    | error e=>rw [hx] at h;cases h
    | ok ts'=>
     rw [hx] at h
     cases h
     intro t ht
     rcases List.mem_cons.1 ht with rfl|ht
     ·show ((b::r).take _).length≤n+1
      rw [xr,zq];omega
     ·exact Nat.le_succ_of_le (ih (r.drop (Lx.firstN (b::r) - 1)) _ ts' (by rw [zr];omega) hx t ht)
theorem jpd {s:List UInt8} (he:(Lx.lexAll s).2.1=0) (hs:s.length≤1000000):TC (Lx.lexAll s).1:=by
 refine ⟨(quk he).1,jla he,?_⟩
 unfold Lx.lexAll at he ⊢
 split at he
 ·simp at he
 rename_i hl
 rw [za hl]
 split at he
 ·rename_i ts hts
  exact fun t ht=>xb (jpc _ s 0 ts (zi _) hts t ht) hs
 ·simp at he
mutual
theorem kids_lenT (n:Nat):∀ (t:Tr) (j:Nat),j<t.size→((layT n t).getD j nd0).kids.length≤t.size
 | .mk kk w ns a l,j,hj=>by
  rw [layT]
  rw [Tr.size] at hj ⊢
  cases j with
  | zero=>
   show (qx (n+1) l).length≤_
   rw [qpr]
   have:=Tr.size_len l
   omega
  | succ j=>
   have:=kids_lenL (n+1) l j (by omega)
   rw [List.getD_cons_succ]
   omega
theorem kids_lenL (n:Nat):∀ (l:List Tr) (j:Nat),j<Tr.sizeL l→((layL n l).getD j nd0).kids.length≤Tr.sizeL l
 | [],j,hj=>absurd hj (zv j)
 | t::r,j,hj=>by
  rw [layL,zd]
  rw [Tr.sizeL] at hj ⊢
  have hlt:=lay_lenT n t
  by_cases h:j<t.size
  ·rw [zp (by omega),← zd]
   have:=kids_lenT n t j h
   omega
  ·rw [zm (by omega),← zd,hlt]
   have:=kids_lenL (n+t.size) r (j - t.size) (by omega)
   omega
end
theorem rowsG (L:List Nd):rowsLt 11 [(8,rowN 10 L),(10,famN L)]:=fun j ids e sz ep m f hl hne k hk=>by
 rw [qq] at hl
 split at hl
 ·cases hl
  rfl
 rw [qq] at hl
 split at hl
 ·cases hl
 ·cases hl
theorem qvc (s:List UInt8) (hs:s.length≤1000000):Con Try.prog 11 [.str s] (qtm (qar s)):=by
 refine jku (T:=tab Try.prog) (fun _=>rfl) Try.func11 rfl (by kernel_rfl) (by kernel_rfl) (fun c rdb=>?_)
 refine StC.seq (StC.region (fun _=>rfl) 300 (fun _ _ _ h=>h) (by
  show ∀ o∈List.cons _ _,_
  repeat' (first|exact qfe|(refine qff ⟨?_,?_⟩ ?_)|exact qfd rfl|exact jj Try.func18 rfl (by kernel_rfl)|exact jj Try.func21 rfl (by kernel_rfl)|exact jj Try.func20 rfl (by kernel_rfl)|exact jj Try.func22 rfl (by kernel_rfl)|exact fun _ _ _=>trivial|exact fun a v h=>⟨(qbv (by decide) v).trans h.1,(qbv (by decide) v).trans h.2⟩)) (fun ch a w _ _ h=>(by
  match ch,h with
  | [⟨v,false,false⟩],h=>obtain ⟨_,_,_,_,_,h1,_⟩:=h;exact False.elim h1)) ?_)
 (repeat' ((conv=>whnf);first|refine zA ?_|refine zO ?_|refine Ob.auto ?_|refine zD 300 ?_|(apply zB <;> intro hb <;> (try simp [-zd] at hb) <;> try (exfalso;omega))|refine Ob.intro ?_ ?_))
 (conv=>whnf)
 refine StC.thn (StC.seq (StC.region (fun _=>rfl) 300 (fun _ _ _ h=>h) (by
  show ∀ o∈List.cons _ _,_
  repeat' (first|exact qfe|(refine qff ⟨?_,?_⟩ ?_)|exact qfd rfl|exact jj Try.func18 rfl (by kernel_rfl)|exact jj Try.func21 rfl (by kernel_rfl)|exact jj Try.func20 rfl (by kernel_rfl)|exact jj Try.func22 rfl (by kernel_rfl)|exact fun _ _ _=>trivial|exact fun a v h=>⟨(qbv (by decide) v).trans h.1,(qbv (by decide) v).trans h.2⟩)) (fun ch a w _ _ h=>(by
  match ch,h with
  | [⟨v,false,false⟩],h=>obtain ⟨_,_,_,_,_,h1,_⟩:=h;exact False.elim h1)) ?_))
 (repeat' ((conv=>whnf);first|refine zA ?_|refine zO ?_|refine Ob.auto ?_|refine zC 300 (qlc s hs) ?_|refine zG 300 (fun hg=>qlc s hs) ?_|(refine CallY.con (qlc s hs) (by rfl) leA ?_)|(refine CallZ.con (fun hg=>qlc s hs) qn (by rfl) ?_)|(refine ql (fun _=>rfl) 300 (qlc s hs) qc (by (repeat' (first|exact trivial|exact Le.refl _|(refine And.intro ?_ ?_))) <;> fail) (by rfl) (by kernel_rfl) ?_)|(refine qp (fun _=>rfl) 300 (fun hg=>qlc s hs) (fun hg=>qc) (fun hg=>(by (repeat' (first|exact trivial|exact Le.refl _|exact Le.cnd hg|(refine And.intro ?_ ?_))) <;> fail)) (by rfl) (by kernel_rfl) ?_)|refine zD 300 ?_|(apply zB <;> intro hb <;> (try simp [-zd] at hb) <;> try (exfalso;omega))|refine Ob.intro ?_ ?_))
 (conv=>whnf)
 refine StC.thn (StC.seq (StC.seq (StC.region (fun _=>rfl) 300 (fun _ _ _ h=>h) (by
  show ∀ o∈List.cons _ _,_
  repeat' (first|exact qfe|(refine qff ⟨?_,?_⟩ ?_)|exact qfd rfl|exact jj Try.func18 rfl (by kernel_rfl)|exact jj Try.func21 rfl (by kernel_rfl)|exact jj Try.func20 rfl (by kernel_rfl)|exact jj Try.func22 rfl (by kernel_rfl)|exact fun _ _ _=>trivial|exact fun a v h=>⟨(qbv (by decide) v).trans h.1,(qbv (by decide) v).trans h.2⟩)) (fun ch a w _ _ h=>(by
  match ch,h with
  | [⟨v,false,false⟩],h=>obtain ⟨_,_,_,_,_,h1,_⟩:=h;exact False.elim h1)) ?_)))
 (repeat' ((conv=>whnf);first|refine zA ?_|refine zO ?_|refine Ob.auto ?_|refine zD 300 ?_|(apply zB <;> intro hb <;> (try simp [-zd] at hb) <;> try (exfalso;omega))|refine Ob.intro ?_ ?_))
 (conv=>whnf)
 refine StC.thn (StC.cond _ rfl (fun hb=>?_) (fun hb=>?_))
 ·have he:(Lx.lexAll s).2.1≠0:=fun e=>by
   have:=jch e
   simp [e,this] at hb
  have e:qar s=([],(Lx.lexAll s).2):=zb he
  refine StC.seq (StC.draw (fun _=>rfl) (by kernel_rfl) 300 (fun _ _ _ h=>h) (by
  show ∀ o∈List.cons _ _,_
  repeat' (first|exact qfe|(refine qff ⟨?_,?_⟩ ?_)|exact qfd rfl|exact jj Try.func18 rfl (by kernel_rfl)|exact jj Try.func21 rfl (by kernel_rfl)|exact jj Try.func20 rfl (by kernel_rfl)|exact jj Try.func22 rfl (by kernel_rfl)|exact fun _ _ _=>trivial|exact fun a v h=>⟨(qbv (by decide) v).trans h.1,(qbv (by decide) v).trans h.2⟩)) (fun ch a w _ _ h=>(by
  match ch,h with
  | [⟨v,false,false⟩],h=>obtain ⟨_,_,_,_,_,h1,_⟩:=h;exact False.elim h1)) ?_)
  (repeat' ((conv=>whnf);first|refine zA ?_|refine zO ?_|refine Ob.auto ?_|refine zD 300 ?_|(apply zB <;> intro hb <;> (try simp [-zd] at hb) <;> try (exfalso;omega))|refine Ob.intro ?_ ?_))
  (conv=>whnf)
  refine StC.thn (StC.ret (StC.thr (StC.retC (EF:={ P:=Try.prog,T:=tab Try.prog,C:={},fn:=Try.f11,c:=c,rdb:=rdb,mpb:=Mp.none,nxb:=0,R:=conR (qtm (qar s)),X:=fun _ _ _=>False }) rfl rfl rfl rfl rfl rfl (fun _=>rfl) ?_)))
  (repeat' ((conv=>whnf);first|refine zA ?_|refine zO ?_|refine Ob.auto ?_|refine zD 300 ?_|(apply zB <;> intro hb <;> (try simp [-zd] at hb) <;> try (exfalso;omega))|refine Ob.intro ?_ ?_))
  rw [e]
  exact Le.tup ⟨Le.nils _ _,Le.refl _,trivial⟩
 ·have he:(Lx.lexAll s).2.1=0:=Classical.byContradiction fun hne=>by simp [hne] at hb
  refine StC.skip (StC.thn (StC.seq (StC.region2 (fun _=>rfl) 300 [_] [_] rfl (fun _ _ _ h=>h) (by
  show ∀ o∈List.cons _ _,_
  repeat' (first|exact qfe|(refine qff ⟨?_,?_⟩ ?_)|exact qfd rfl|exact jj Try.func18 rfl (by kernel_rfl)|exact jj Try.func21 rfl (by kernel_rfl)|exact jj Try.func20 rfl (by kernel_rfl)|exact jj Try.func22 rfl (by kernel_rfl)|exact fun _ _ _=>trivial|exact fun a v h=>⟨(qbv (by decide) v).trans h.1,(qbv (by decide) v).trans h.2⟩)) (fun ch a w _ _ h=>(by
  match ch,h with
  | [⟨v,false,false⟩],h=>obtain ⟨_,_,_,_,_,h1,_⟩:=h;exact False.elim h1)) ?_)))
  (conv=>whnf)
  (repeat' ((conv=>whnf);first|refine zA ?_|refine zO ?_|refine Ob.auto ?_|refine zD 300 ?_|(apply zB <;> intro hb <;> (try simp [-zd] at hb) <;> try (exfalso;omega))|refine Ob.intro ?_ ?_))
  (conv=>whnf)
  have hz:=jch he
  have hc:=jpd he hs
  obtain ⟨ht,h0⟩:=quk he
  have hp:=jbw he
  have e0:qar s=qhq (Lx.lexAll s).1:=za (by rw [he];decide)
  have hP:PreC (Lx.lexAll s).1 (Lx.lexAll s).1.length ⟨0,0,0,0⟩:=⟨⟨zk _,by simp only;omega⟩,rfl,by simp,by simp⟩
  have t1:=jnk hc hP rfl
  rw [RdM] at t1
  have hres:(qaj (Lx.lexAll s).1 ⟨0,0,0,0⟩).2.err≠0→RetG (EF c rdb (qtm (qar s))) ⟨[(2,.ptr 0 0),(3,.ptr 1 0)],[(0,lB .nils),(1,fB (qaj (Lx.lexAll s).1 ⟨0,0,0,0⟩).2.err (qaj (Lx.lexAll s).1 ⟨0,0,0,0⟩).2.fat)],2⟩:=fun hn=>by
   have e:qhq (Lx.lexAll s).1=([],((qaj (Lx.lexAll s).1 ⟨0,0,0,0⟩).2.err,(qaj (Lx.lexAll s).1 ⟨0,0,0,0⟩).2.fat)):=zb hn
   rw [e0,e]
   (repeat' ((conv=>whnf);first|refine zA ?_|refine zO ?_|refine Ob.auto ?_|refine zD 300 ?_|(apply zB <;> intro hb <;> (try simp [-zd] at hb) <;> try (exfalso;omega))|refine Ob.intro ?_ ?_))
   exact Le.tup ⟨Le.nils _ _,Le.refl _,trivial⟩
  refine joz (z:=(qaj (Lx.lexAll s).1 ⟨0,0,0,0⟩).2) rfl rfl rfl (fun rd1 mp1 p q p2 p3 hp1 hq1 hp2 hp3 hr1=>?_)
  have hpan:=fun ch a w h1 h2 h3=>jpb (z:=(qaj (Lx.lexAll s).1 ⟨0,0,0,0⟩).2) hr1 hp1 hq1 hp2 hp3 hres ch a w h1 h2 h3
  refine StC.thn (StC.seq (StC.region (fun _=>rfl) 300 (fun _ _ _ h=>h) (by
  show ∀ o∈List.cons _ _,_
  repeat' (first|exact qfe|(refine qff ⟨?_,?_⟩ ?_)|exact qfd rfl|exact jj Try.func18 rfl (by kernel_rfl)|exact jj Try.func21 rfl (by kernel_rfl)|exact jj Try.func20 rfl (by kernel_rfl)|exact jj Try.func22 rfl (by kernel_rfl)|exact fun _ _ _=>trivial|exact fun a v h=>⟨(qbv (by decide) v).trans h.1,(qbv (by decide) v).trans h.2⟩)) hpan ?_))
  (repeat' ((conv=>whnf);first|refine zA ?_|refine zO ?_|refine Ob.auto ?_|refine zD 300 ?_|(apply zB <;> intro hb <;> (try simp [-zd] at hb) <;> try (exfalso;omega))|refine Ob.intro ?_ ?_))
  (conv=>whnf)
  refine StC.thn (StC.seq (StC.region (fun _=>rfl) 300 (fun _ _ _ h=>h) (by
  show ∀ o∈List.cons _ _,_
  repeat' (first|exact qfe|(refine qff ⟨?_,?_⟩ ?_)|exact qfd rfl|exact jj Try.func18 rfl (by kernel_rfl)|exact jj Try.func21 rfl (by kernel_rfl)|exact jj Try.func20 rfl (by kernel_rfl)|exact jj Try.func22 rfl (by kernel_rfl)|exact fun _ _ _=>trivial|exact fun a v h=>⟨(qbv (by decide) v).trans h.1,(qbv (by decide) v).trans h.2⟩)) hpan ?_))
  (repeat' ((conv=>whnf);first|refine zA ?_|refine zO ?_|refine Ob.auto ?_|refine zD 300 ?_|(apply zB <;> intro hb <;> (try simp [-zd] at hb) <;> try (exfalso;omega))|refine Ob.intro ?_ ?_))
  (conv=>whnf)
  refine jkt (fun _=>rfl) 300 [2] t1 (by kernel_rfl) (by kernel_rfl) leA qa (by exact qb rfl) (by exact qb rfl) (by kernel_rfl) (fun hk=>⟨⟨rfl,by simpa using hk⟩,SoLe.refl _,⟨rfl,Le.of_eq (congrArg iv he),Le.of_eq (congrArg iv hz),trivial⟩,trivial⟩) (fun hok=>?_)
  have hn:(qaj (Lx.lexAll s).1 ⟨0,0,0,0⟩).2.err=0:=by simpa using hok
  have hsz:(qaj (Lx.lexAll s).1 ⟨0,0,0,0⟩).1.size≤100000:=by
   have:=jnz ht hP.at_ hn
   have:=ht.len
   omega
  obtain ⟨l,j,el,hsp,hj⟩:=jbv ht hP.at_ hn
  have hnn:(qaj (Lx.lexAll s).1 ⟨0,0,0,0⟩).1.allT (fun u=>0≤u.at_):=by
   rw [el]
   refine qbm ?_ (spL_nonneg (fun t hm=>(hp.1 t hm).1) l _ j hsp (zk _) (by omega))
   obtain ⟨t,hm,e2⟩:=qnp (ts:=(Lx.lexAll s).1) (i:=0) (zk _) (by omega)
   have:=(hp.1 t hm).1
   show 0≤posT (Lx.lexAll s).1 0
   omega
  have e2:qhq (Lx.lexAll s).1=if 800<(layT 0 (qaj (Lx.lexAll s).1 ⟨0,0,0,0⟩).1).length then ([],(12,0)) else if 0≤deepT (qaj (Lx.lexAll s).1 ⟨0,0,0,0⟩).1 1 then ([],(12,deepT (qaj (Lx.lexAll s).1 ⟨0,0,0,0⟩).1 1)) else (layT 0 (qaj (Lx.lexAll s).1 ⟨0,0,0,0⟩).1,(0,0)):=za (fun h=>h hn)
  have e3:qar s=if (qfi (layT 0 (qaj (Lx.lexAll s).1 ⟨0,0,0,0⟩).1)).1=0 then (layT 0 (qaj (Lx.lexAll s).1 ⟨0,0,0,0⟩).1,(0,0)) else ([],qfi (layT 0 (qaj (Lx.lexAll s).1 ⟨0,0,0,0⟩).1)):=by
   rw [e0,e2,jby _ hnn]
   split
   ·rfl
   ·split <;> rfl
  have e4:(qfi (layT 0 (qaj (Lx.lexAll s).1 ⟨0,0,0,0⟩).1)).1=0→(qfi (layT 0 (qaj (Lx.lexAll s).1 ⟨0,0,0,0⟩).1)).2=0:=by
   rw [jby _ hnn]
   split
   ·intro h;exact absurd h (show ¬ (12:Int)=0 by decide)
   ·split
    ·intro h;exact absurd h (show ¬ (12:Int)=0 by decide)
    ·intro _;rfl
  generalize (qaj (Lx.lexAll s).1 ⟨0,0,0,0⟩).1=t at hsz e3 e4 ⊢
  have hlt:=lay_lenT 0 t
  have htp:=qnq t
  have t3:=joo (layT 0 t) (by omega) (by omega) (fun j hj k hk=>by have:=kids_upT 0 t j (by omega) k hk;omega) (fun j hj=>by have:=kids_lenT 0 t j (by omega);omega)
  generalize qfi (layT 0 t)=zz at e3 e4 t3
  (repeat' ((conv=>whnf);first|refine zA ?_|refine zO ?_|refine Ob.auto ?_|refine zD 300 ?_|(apply zB <;> intro hb <;> (try simp [-zd] at hb) <;> try (exfalso;omega))|refine Ob.intro ?_ ?_))
  (conv=>whnf)
  refine qip (fun _=>rfl) 300 [] (jnp t hsz) (by kernel_rfl) leA trivial (by exact qb rfl) (rowsG _) (by kernel_rfl) ?_
  (repeat' ((conv=>whnf);first|refine zA ?_|refine zO ?_|refine Ob.auto ?_|refine zD 300 ?_|(apply zB <;> intro hb <;> (try simp [-zd] at hb) <;> try (exfalso;omega))|refine Ob.intro ?_ ?_))
  (conv=>whnf)
  refine StC.thn (StC.seq (StC.seq (StC.region (fun _=>rfl) 300 (fun _ _ _ h=>h) (by
  show ∀ o∈List.cons _ _,_
  repeat' (first|exact qfe|(refine qff ⟨?_,?_⟩ ?_)|exact qfd rfl|exact jj Try.func18 rfl (by kernel_rfl)|exact jj Try.func21 rfl (by kernel_rfl)|exact jj Try.func20 rfl (by kernel_rfl)|exact jj Try.func22 rfl (by kernel_rfl)|exact fun _ _ _=>trivial|exact fun a v h=>⟨(qbv (by decide) v).trans h.1,(qbv (by decide) v).trans h.2⟩)) hpan ?_)))
  (repeat' ((conv=>whnf);first|refine zA ?_|refine zO ?_|refine Ob.auto ?_|refine zD 300 ?_|(apply zB <;> intro hb <;> (try simp [-zd] at hb) <;> try (exfalso;omega))|refine Ob.intro ?_ ?_))
  (conv=>whnf)
  refine ql (fun _=>rfl) 300 t3 ⟨⟨trivial,⟨rfl,rfl⟩,fun k hk=>⟨trivial,trivial,trivial,⟨hk,⟨rfl,rfl⟩,trivial⟩,trivial,trivial⟩⟩,trivial⟩ ⟨Le.slcL rfl (fun k hk=>⟨Le.refl _,Le.refl _,Le.refl _,Le.refl _,Le.refl _,trivial⟩),trivial⟩ (by rfl) (by kernel_rfl) ?_
  (repeat' ((conv=>whnf);first|refine zA ?_|refine zO ?_|refine Ob.auto ?_|refine zD 300 ?_|(apply zB <;> intro hb <;> (try simp [-zd] at hb) <;> try (exfalso;omega))|refine Ob.intro ?_ ?_))
  (conv=>whnf)
  refine StC.thn (StC.seq (StC.region (fun _=>rfl) 300 (fun _ _ _ h=>h) (by
  show ∀ o∈List.cons _ _,_
  repeat' (first|exact qfe|(refine qff ⟨?_,?_⟩ ?_)|exact qfd rfl|exact jj Try.func18 rfl (by kernel_rfl)|exact jj Try.func21 rfl (by kernel_rfl)|exact jj Try.func20 rfl (by kernel_rfl)|exact jj Try.func22 rfl (by kernel_rfl)|exact fun _ _ _=>trivial|exact fun a v h=>⟨(qbv (by decide) v).trans h.1,(qbv (by decide) v).trans h.2⟩)) hpan ?_))
  (repeat' ((conv=>whnf);first|refine zA ?_|refine zO ?_|refine Ob.auto ?_|refine zD 300 ?_|(apply zB <;> intro hb <;> (try simp [-zd] at hb) <;> try (exfalso;omega))|refine Ob.intro ?_ ?_))
  (conv=>whnf)
  refine StC.thn (StC.cond _ rfl (fun hb=>?_) (fun hb=>?_))
  ·have hne:zz.1≠0:=fun e=>by
    have:=e4 e
    simp [e,this] at hb
   rw [za hne] at e3
   refine StC.seq (StC.draw (fun _=>rfl) (by kernel_rfl) 300 (fun _ _ _ h=>h) (by
  show ∀ o∈List.cons _ _,_
  repeat' (first|exact qfe|(refine qff ⟨?_,?_⟩ ?_)|exact qfd rfl|exact jj Try.func18 rfl (by kernel_rfl)|exact jj Try.func21 rfl (by kernel_rfl)|exact jj Try.func20 rfl (by kernel_rfl)|exact jj Try.func22 rfl (by kernel_rfl)|exact fun _ _ _=>trivial|exact fun a v h=>⟨(qbv (by decide) v).trans h.1,(qbv (by decide) v).trans h.2⟩)) hpan ?_)
   (repeat' ((conv=>whnf);first|refine zA ?_|refine zO ?_|refine Ob.auto ?_|refine zD 300 ?_|(apply zB <;> intro hb <;> (try simp [-zd] at hb) <;> try (exfalso;omega))|refine Ob.intro ?_ ?_))
   (conv=>whnf)
   refine StC.thn (StC.ret (StC.thr (jci hr1 ?_)))
   (repeat' ((conv=>whnf);first|refine zA ?_|refine zO ?_|refine Ob.auto ?_|refine zD 300 ?_|(apply zB <;> intro hb <;> (try simp [-zd] at hb) <;> try (exfalso;omega))|refine Ob.intro ?_ ?_))
   rw [e3]
   exact Le.tup ⟨Le.nils _ _,Le.refl _,trivial⟩
  ·have h1:zz.1=0:=Classical.byContradiction fun hne=>by simp [hne] at hb
   rw [zb h1] at e3
   refine StC.skip (StC.thn (StC.seq (StC.region (fun _=>rfl) 300 (fun _ _ _ h=>h) (by
  show ∀ o∈List.cons _ _,_
  repeat' (first|exact qfe|(refine qff ⟨?_,?_⟩ ?_)|exact qfd rfl|exact jj Try.func18 rfl (by kernel_rfl)|exact jj Try.func21 rfl (by kernel_rfl)|exact jj Try.func20 rfl (by kernel_rfl)|exact jj Try.func22 rfl (by kernel_rfl)|exact fun _ _ _=>trivial|exact fun a v h=>⟨(qbv (by decide) v).trans h.1,(qbv (by decide) v).trans h.2⟩)) hpan ?_)))
   (repeat' ((conv=>whnf);first|refine zA ?_|refine zO ?_|refine Ob.auto ?_|refine zD 300 ?_|(apply zB <;> intro hb <;> (try simp [-zd] at hb) <;> try (exfalso;omega))|refine Ob.intro ?_ ?_))
   (conv=>whnf)
   refine StC.thn (StC.ret (jci hr1 ?_))
   (repeat' ((conv=>whnf);first|refine zA ?_|refine zO ?_|refine Ob.auto ?_|refine zD 300 ?_|(apply zB <;> intro hb <;> (try simp [-zd] at hb) <;> try (exfalso;omega))|refine Ob.intro ?_ ?_))
   ·exact ⟨⟨trivial,⟨rfl,rfl⟩,fun k hk=>⟨trivial,trivial,trivial,⟨hk,⟨rfl,rfl⟩,trivial⟩,trivial,trivial⟩⟩,⟨trivial,trivial,trivial⟩,trivial⟩
   ·rw [e3]
    refine Le.tup ⟨Le.slcL rfl (fun k hk=>?_),Le.refl _,trivial⟩
    exact ⟨Le.refl _,Le.refl _,Le.refl _,Le.refl _,Le.refl _,trivial⟩
end Go.Proofs.Ythfaleaojlnnoaa
