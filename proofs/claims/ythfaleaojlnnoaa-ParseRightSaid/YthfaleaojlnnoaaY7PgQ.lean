/- What was read is right. Nothing of the program. -/
import Derived.Test.YthfaleaojlnnoaaY7PgR
import Derived.Test.YthfaleaojlnnoaaY72
set_option linter.unusedSimpArgs false
set_option linter.unusedVariables false
namespace Go.Proofs.Ythfaleaojlnnoaa
namespace Pa
open Go Go.Sx Go.St
theorem qbm {Q:Tr→Prop} {k a:Int} {w:List (List UInt8)} {n:List Int} {l:List Tr} (h:Q (.mk k w n a l)) (hl:Tr.allL Q l):(Tr.mk k w n a l).allT Q:=by rw [Tr.allT];exact ⟨h,hl⟩
theorem qcr {Q:Tr→Prop}:Tr.allL Q []:=by rw [Tr.allL];trivial
theorem qcy {Q:Tr→Prop} {t:Tr} {r:List Tr} (h:t.allT Q) (hr:Tr.allL Q r):Tr.allL Q (t::r):=by rw [Tr.allL];exact ⟨h,hr⟩
theorem jcf {Q:Tr→Prop}:∀ l r:List Tr,Tr.allL Q l→Tr.allL Q r→Tr.allL Q (l++r)
 | [],_,_,h=>h
 | t::l,r,h,h'=>by
  rw [Tr.allL] at h
  exact qcy h.1 (jcf l r h.2 h')
theorem qll {R:Int→Int→Tr→Prop} {Q:Tr→Prop} (hR:∀ a b t,R a b t→t.allT Q):∀ (l:List Tr) (i j:Int),Seq R i j l→Tr.allL Q l
 | [],_,_,_=>qcr
 | _::r,_,_,⟨_,_,_,h,h'⟩=>qcy (hR _ _ _ h) (qll hR r _ _ h')
theorem qlm {R:Int→Int→Tr→Prop} {P:Tr→Prop} (hR:∀ a b t,R a b t→P t):∀ (l:List Tr) (i j:Int),Seq R i j l→∀ k,k<l.length→P (l.getD k Tr.none)
 | [],_,_,_,k,hk=>absurd hk (zv k)
 | _::_,_,_,⟨_,_,_,h,_⟩,0,_=>hR _ _ _ h
 | _::r,_,_,⟨_,_,_,_,h'⟩,k+1,hk=>qlm hR r _ _ h' k (by simpa using hk)
def qhv (u:Tr):Prop:=u.l.length≤800→jz u=true
def jox (ts:List Lx.Tok):Alg ts where
 E _ _ t:=inK t.kind 17 22=true∧t.allT qhv
 S _ _ t:=inK t.kind 6 15=true∧t.allT qhv
 B _ _ t:=t.kind=16∧t.allT qhv
 V _ _ t:=t.kind=2∧t.allT qhv
 I _ _ t:=inK t.kind 1 5=true∧t.allT qhv
 rNum h0 h1 _:=⟨rfl,qbm (fun _=>q_num h0 h1) qcr⟩
 rName hk hw _:=⟨by rcases hk with rfl|rfl <;> rfl,qbm (fun _=>joq hk hw) qcr⟩
 rUn hk _ ht _:=⟨by rcases hk with rfl|rfl <;> rfl,qbm (fun _=>jcc (.inr hk) ht.1) (qcy ht.2 qcr)⟩
 rPar _ ht _:=ht
 rBin h0 h8 ha _ hb:=⟨rfl,qbm (fun _=>q_bin h0 h8 ha.1 hb.1) (qcy ha.2 (qcy hb.2 qcr))⟩
 rSet hk hw _ ht _:=⟨by rcases hk with rfl|rfl <;> rfl,qbm (fun _=>q_set hk hw ht.1) (qcy ht.2 qcr)⟩
 rRecv hw hv h0 h1 _:=⟨rfl,qbm (fun _=>jor hw hv h0 h1) qcr⟩
 rWhen h0 h1 _ ht _:=⟨rfl,qbm (fun _=>jos h0 h1 ht.1) (qcy ht.2 qcr)⟩
 rChoose h0 h1 _ hl hn:=⟨rfl,qbm (fun h8=>jot h0 h1 (qlm (fun _ _ _ h=>h.1) _ _ _ hl) hn h8) (qll (fun _ _ _ h=>h.2) _ _ _ hl)⟩
 rIf _ he _ hb:=⟨rfl,qbm (fun _=>q_if 11 (.inl rfl) he.1 hb.1) (qcy he.2 (qcy hb.2 qcr))⟩
 rIfE _ he _ hb _ hc:=⟨rfl,qbm (fun _=>q_ife he.1 hb.1 hc.1) (qcy he.2 (qcy hb.2 (qcy hc.2 qcr)))⟩
 rWhile _ he _ hb:=⟨rfl,qbm (fun _=>q_if 12 (.inr rfl) he.1 hb.1) (qcy he.2 (qcy hb.2 qcr))⟩
 rAtom _ hb:=⟨rfl,qbm (fun _=>jou hb.1) (qcy hb.2 qcr)⟩
 rBare hk _:=⟨by rcases hk with rfl|rfl <;> rfl,qbm (fun _=>jcd (.inr hk)) qcr⟩
 rBlock _ hl _:=⟨rfl,qbm (fun _=>jce (.inl ⟨rfl,qlm (fun _ _ _ h=>h.1) _ _ _ hl⟩)) (qll (fun _ _ _ h=>h.2) _ _ _ hl)⟩
 rVar hw h0 h1 h2 h3 _:=⟨rfl,qbm (fun _=>q_var hw h0 h1 h2 h3) qcr⟩
 rIVar h:=⟨by rw [h.1];rfl,h.2⟩
 rChan hw h0 h1 h2 h3 h4 h5 h6 h7 _:=⟨rfl,qbm (fun _=>jov hw h0 h1 h2 h3 h4 h5 h6 h7) qcr⟩
 rProc hw h0 h1 _ hv hs _:=⟨rfl,qbm (fun _=>jow hw h0 h1 (qlm (fun _ _ _ h=>h.1) _ _ _ hv) (qlm (fun _ _ _ h=>h.1) _ _ _ hs)) (jcf _ _ (qll (fun _ _ _ h=>h.2) _ _ _ hv) (qll (fun _ _ _ h=>h.2) _ _ _ hs))⟩
 rSafe _ ht _:=⟨rfl,qbm (fun _=>jcc (.inl rfl) ht.1) (qcy ht.2 qcr)⟩
 rDead _:=⟨rfl,qbm (fun _=>jcd (.inl rfl)) qcr⟩
theorem jcg:∀ l:List Tr,l.length≤Tr.sizeL l
 | []=>xv _
 | t::r=>by
  have:=qnq t
  have:=jcg r
  rw [Tr.sizeL,zq];omega
mutual
theorem right_fix:∀ t:Tr,t.size≤800→t.allT qhv→t.allT (fun u=>jz u=true)
 | .mk k w n a l,h,hq=>by
  rw [Tr.allT] at hq
  rw [Tr.size] at h
  have h1:=jcg l
  exact qbm (hq.1 (by show l.length≤800;omega)) (right_fixL l (by omega) hq.2)
theorem right_fixL:∀ l:List Tr,Tr.sizeL l≤800→Tr.allL qhv l→Tr.allL (fun u=>jz u=true) l
 | [],_,_=>qcr
 | t::r,h,hq=>by
  rw [Tr.allL] at hq
  rw [Tr.sizeL] at h
  exact qcy (right_fix t (by omega) hq.1) (right_fixL r (by omega) hq.2)
end
theorem joy {L:List Nd} {nd:Nd} {u:Tr} (h:NdOf L nd u):qaa L nd=jz u:=by
 have hl:nd.kids.length=u.l.length:=by
  have:=congrArg List.length h.kids
  rwa [zu,zu] at this
 refine jop h.kind h.words h.nums (by rw [qqm,hl]) (fun i hi=>?_)
 rw [qqn u i (by omega)]
 have hi':i<u.l.length:=by omega
 have:=congrArg (fun l=>l[i]?) h.kids
 simp only [zg,ze hi,ze hi',xe,Option.some.injEq,Prod.mk.injEq] at this
 unfold kidK
 rw [List.getD_eq_getElem?_getD (l:=nd.kids),ze hi,zal,this.1,List.getD_eq_getElem?_getD,ze hi']
 rfl
theorem qva {s:List UInt8} (h:(qar s).2.1=0):qdm (qar s).1=true:=by
 unfold qar at h ⊢
 split at h
 ·rename_i hn
  exact absurd h hn
 rename_i hn
 rw [za hn]
 have he:(Lx.lexAll s).2.1=0:=Classical.byContradiction hn
 have hp:=jbw he
 obtain ⟨ht,h0⟩:=quk he
 generalize (Lx.lexAll s).1=ts at hp ht h0 h ⊢
 have hA:AtOk ts ⟨0,0,0,0⟩:=⟨zk _,by simp only;omega⟩
 unfold qhq at h ⊢
 simp only at h ⊢
 split at h
 ·rename_i hx
  exact absurd h hx
 rename_i hx
 rw [za hx]
 have hx:(qaj ts ⟨0,0,0,0⟩).2.err=0:=Classical.byContradiction hx
 split at h
 ·simp at h
 rename_i h8
 rw [za h8]
 split at h
 ·simp at h
 rename_i hd
 rw [za hd]
 obtain ⟨l,j,e,hs,hj⟩:=jbv ht hA hx
 obtain ⟨l',e',hr⟩:=jbu ht (jox ts) hA hx
 obtain rfl:l=l':=by rw [e] at e';injection e'
 have e:(qaj ts ⟨0,0,0,0⟩).1=.mk 0 [] [] (posT ts 0) l:=e
 rw [e] at h8 hd ⊢
 rw [lay_lenT] at h8
 have hnn:(Tr.mk 0 [] [] (posT ts 0) l).allT (fun u=>0≤u.at_):=by
  refine qbm ?_ (spL_nonneg (fun t hm=>(hp.1 t hm).1) l _ j hs (zk _) (by omega))
  obtain ⟨t,hm,e2⟩:=qnp (ts:=ts) (i:=0) (zk _) (by omega)
  have:=(hp.1 t hm).1
  show 0≤posT ts 0
  omega
 have hw:=jol _ hnn hd
 have hq:(Tr.mk 0 [] [] (posT ts 0) l).allT qhv:=qbm (fun _=>jce (.inr ⟨rfl,qlm (fun _ _ _ h=>h.1) _ _ _ hr⟩)) (qll (fun _ _ _ h=>h.2) _ _ _ hr)
 have hz:=right_fix _ (by omega) hq
 have hall:(layT 0 (Tr.mk 0 [] [] (posT ts 0) l)).all (qaa (layT 0 (Tr.mk 0 [] [] (posT ts 0) l)))=true:=by
  rw [zs]
  intro nd hm
  obtain ⟨u,hu,ho⟩:=layT_of (layT 0 (Tr.mk 0 [] [] (posT ts 0) l)) _ 0 [] [] (by simp) rfl hz nd hm
  rw [joy ho];exact hu
 have hsz:=qnq (Tr.mk 0 [] [] (posT ts 0) l)
 have hk:((layT 0 (Tr.mk 0 [] [] (posT ts 0) l)).getD 0 nd0).kind=0:=by rw [layT];rfl
 unfold qdm
 rw [hw,hk,hall,lay_lenT,zt (by omega),zt h8]
 simp
theorem qvb {s:List UInt8} (h:(qar s).2.1≠0):(qar s).1=[]:=by
 unfold qar at h ⊢
 split
 ·rfl
 rename_i hn
 rw [za hn] at h
 unfold qhq at h ⊢
 simp only at h ⊢
 split
 ·rfl
 rename_i hx
 rw [za hx] at h
 split
 ·rfl
 rename_i h8
 rw [za h8] at h
 split
 ·rfl
 rename_i hd
 rw [za hd] at h
 exact absurd rfl h
end Pa
end Go.Proofs.Ythfaleaojlnnoaa
