/- What was read is right. Nothing of the program. -/
import Derived.Test.YthfaleaojlnnoaaQ37
import Derived.Test.YthfaleaojlnnoaaQ2
set_option linter.unusedSimpArgs false
set_option linter.unusedVariables false
namespace Go.Proofs.Ythfaleaojlnnoaa
namespace Pa
open Go Go.Sx Go.St
theorem qcg {Q:Tr→Prop} {k a:Int} {w:List (List UInt8)} {n:List Int} {l:List Tr} (h:Q (.mk k w n a l)) (hl:Tr.allL Q l):(Tr.mk k w n a l).allT Q:=by rw [Tr.allT];exact ⟨h,hl⟩
theorem qdd {Q:Tr→Prop}:Tr.allL Q []:=by rw [Tr.allL];trivial
theorem qdj {Q:Tr→Prop} {t:Tr} {r:List Tr} (h:t.allT Q) (hr:Tr.allL Q r):Tr.allL Q (t::r):=by rw [Tr.allL];exact ⟨h,hr⟩
theorem jck {Q:Tr→Prop}:∀ l r:List Tr,Tr.allL Q l→Tr.allL Q r→Tr.allL Q (l++r)
 | [],_,_,h=>h
 | t::l,r,h,h'=>by
  rw [Tr.allL] at h
  exact qdj h.1 (jck l r h.2 h')
theorem qlv {R:Int→Int→Tr→Prop} {Q:Tr→Prop} (hR:∀ a b t,R a b t→t.allT Q):∀ (l:List Tr) (i j:Int),Seq R i j l→Tr.allL Q l
 | [],_,_,_=>qdd
 | _::r,_,_,⟨_,_,_,h,h'⟩=>qdj (hR _ _ _ h) (qlv hR r _ _ h')
theorem qlw {R:Int→Int→Tr→Prop} {P:Tr→Prop} (hR:∀ a b t,R a b t→P t):∀ (l:List Tr) (i j:Int),Seq R i j l→∀ k,k<l.length→P (l.getD k Tr.none)
 | [],_,_,_,k,hk=>absurd hk (xb k)
 | _::_,_,_,⟨_,_,_,h,_⟩,0,_=>hR _ _ _ h
 | _::r,_,_,⟨_,_,_,_,h'⟩,k+1,hk=>qlw hR r _ _ h' k (by simpa using hk)
def qik (u:Tr):Prop:=u.l.length≤800→qai u=true
def jpf (ts:List Lx.Tok):Alg ts where
 E _ _ t:=inK t.kind 17 22=true∧t.allT qik
 S _ _ t:=inK t.kind 6 15=true∧t.allT qik
 B _ _ t:=t.kind=16∧t.allT qik
 V _ _ t:=t.kind=2∧t.allT qik
 I _ _ t:=inK t.kind 1 5=true∧t.allT qik
 rNum h0 h1 _:=⟨rfl,qcg (fun _=>q_num h0 h1) qdd⟩
 rName hk hw _:=⟨by rcases hk with rfl|rfl <;> rfl,qcg (fun _=>joy hk hw) qdd⟩
 rUn hk _ ht _:=⟨by rcases hk with rfl|rfl <;> rfl,qcg (fun _=>jch (.inr hk) ht.1) (qdj ht.2 qdd)⟩
 rPar _ ht _:=ht
 rBin h0 h8 ha _ hb:=⟨rfl,qcg (fun _=>q_bin h0 h8 ha.1 hb.1) (qdj ha.2 (qdj hb.2 qdd))⟩
 rSet hk hw _ ht _:=⟨by rcases hk with rfl|rfl <;> rfl,qcg (fun _=>q_set hk hw ht.1) (qdj ht.2 qdd)⟩
 rRecv hw hv h0 h1 _:=⟨rfl,qcg (fun _=>joz hw hv h0 h1) qdd⟩
 rWhen h0 h1 _ ht _:=⟨rfl,qcg (fun _=>jpa h0 h1 ht.1) (qdj ht.2 qdd)⟩
 rChoose h0 h1 _ hl hn:=⟨rfl,qcg (fun h8=>jpb h0 h1 (qlw (fun _ _ _ h=>h.1) _ _ _ hl) hn h8) (qlv (fun _ _ _ h=>h.2) _ _ _ hl)⟩
 rIf _ he _ hb:=⟨rfl,qcg (fun _=>q_if 11 (.inl rfl) he.1 hb.1) (qdj he.2 (qdj hb.2 qdd))⟩
 rIfE _ he _ hb _ hc:=⟨rfl,qcg (fun _=>q_ife he.1 hb.1 hc.1) (qdj he.2 (qdj hb.2 (qdj hc.2 qdd)))⟩
 rWhile _ he _ hb:=⟨rfl,qcg (fun _=>q_if 12 (.inr rfl) he.1 hb.1) (qdj he.2 (qdj hb.2 qdd))⟩
 rAtom _ hb:=⟨rfl,qcg (fun _=>jpc hb.1) (qdj hb.2 qdd)⟩
 rBare hk _:=⟨by rcases hk with rfl|rfl <;> rfl,qcg (fun _=>jci (.inr hk)) qdd⟩
 rBlock _ hl _:=⟨rfl,qcg (fun _=>jcj (.inl ⟨rfl,qlw (fun _ _ _ h=>h.1) _ _ _ hl⟩)) (qlv (fun _ _ _ h=>h.2) _ _ _ hl)⟩
 rVar hw h0 h1 h2 h3 _:=⟨rfl,qcg (fun _=>q_var hw h0 h1 h2 h3) qdd⟩
 rIVar h:=⟨by rw [h.1];rfl,h.2⟩
 rChan hw h0 h1 h2 h3 h4 h5 h6 h7 _:=⟨rfl,qcg (fun _=>jpd hw h0 h1 h2 h3 h4 h5 h6 h7) qdd⟩
 rProc hw h0 h1 _ hv hs _:=⟨rfl,qcg (fun _=>jpe hw h0 h1 (qlw (fun _ _ _ h=>h.1) _ _ _ hv) (qlw (fun _ _ _ h=>h.1) _ _ _ hs)) (jck _ _ (qlv (fun _ _ _ h=>h.2) _ _ _ hv) (qlv (fun _ _ _ h=>h.2) _ _ _ hs))⟩
 rSafe _ ht _:=⟨rfl,qcg (fun _=>jch (.inl rfl) ht.1) (qdj ht.2 qdd)⟩
 rDead _:=⟨rfl,qcg (fun _=>jci (.inl rfl)) qdd⟩
theorem jcl:∀ l:List Tr,l.length≤Tr.sizeL l
 | []=>xe _
 | t::r=>by
  have:=qnz t
  have:=jcl r
  rw [Tr.sizeL,zq];omega
mutual
theorem right_fix:∀ t:Tr,t.size≤800→t.allT qik→t.allT (fun u=>qai u=true)
 | .mk k w n a l,h,hq=>by
  rw [Tr.allT] at hq
  rw [Tr.size] at h
  have h1:=jcl l
  exact qcg (hq.1 (by show l.length≤800;omega)) (right_fixL l (by omega) hq.2)
theorem right_fixL:∀ l:List Tr,Tr.sizeL l≤800→Tr.allL qik l→Tr.allL (fun u=>qai u=true) l
 | [],_,_=>qdd
 | t::r,h,hq=>by
  rw [Tr.allL] at hq
  rw [Tr.sizeL] at h
  exact qdj (right_fix t (by omega) hq.1) (right_fixL r (by omega) hq.2)
end
theorem jpg {L:List Nd} {nd:Nd} {u:Tr} (h:NdOf L nd u):qbo L nd=qai u:=by
 have hl:nd.kids.length=u.l.length:=by
  have:=congrArg List.length h.kids
  rwa [zs,zs] at this
 refine jox h.kind h.words h.nums (by rw [qqz,hl]) (fun i hi=>?_)
 rw [qra u i (by omega)]
 have hi':i<u.l.length:=by omega
 have:=congrArg (fun l=>l[i]?) h.kids
 simp only [zg,ze hi,ze hi',xi,Option.some.injEq,Prod.mk.injEq] at this
 unfold kidK
 rw [List.getD_eq_getElem?_getD (l:=nd.kids),ze hi,zas,this.1,List.getD_eq_getElem?_getD,ze hi']
 rfl
theorem jph {s:List UInt8} (h:(qbk s).2.1=0):qun (qbk s).1=true:=by
 unfold qbk at h ⊢
 split at h
 ·rename_i hn
  exact absurd h hn
 rename_i hn
 rw [za hn]
 have he:(Lx.lexAll s).2.1=0:=Classical.byContradiction hn
 have hp:=jcb he
 obtain ⟨ht,h0⟩:=qqj he
 generalize (Lx.lexAll s).1=ts at hp ht h0 h ⊢
 have hA:AtOk ts ⟨0,0,0,0⟩:=⟨zm _,by simp only;omega⟩
 unfold qfq at h ⊢
 simp only at h ⊢
 split at h
 ·rename_i hx
  exact absurd h hx
 rename_i hx
 rw [za hx]
 have hx:(jl ts ⟨0,0,0,0⟩).2.err=0:=Classical.byContradiction hx
 split at h
 ·simp at h
 rename_i h8
 rw [za h8]
 split at h
 ·simp at h
 rename_i hd
 rw [za hd]
 obtain ⟨l,j,e,hs,hj⟩:=jca ht hA hx
 obtain ⟨l',e',hr⟩:=jbz ht (jpf ts) hA hx
 obtain rfl:l=l':=by rw [e] at e';injection e'
 have e:(jl ts ⟨0,0,0,0⟩).1=.mk 0 [] [] (posT ts 0) l:=e
 rw [e] at h8 hd ⊢
 rw [lay_lenT] at h8
 have hnn:(Tr.mk 0 [] [] (posT ts 0) l).allT (fun u=>0≤u.at_):=by
  refine qcg ?_ (spL_nonneg (fun t hm=>(hp.1 t hm).1) l _ j hs (zm _) (by omega))
  obtain ⟨t,hm,e2⟩:=qny (ts:=ts) (i:=0) (zm _) (by omega)
  have:=(hp.1 t hm).1
  show 0≤posT ts 0
  omega
 have hw:=jot _ hnn hd
 have hq:(Tr.mk 0 [] [] (posT ts 0) l).allT qik:=qcg (fun _=>jcj (.inr ⟨rfl,qlw (fun _ _ _ h=>h.1) _ _ _ hr⟩)) (qlv (fun _ _ _ h=>h.2) _ _ _ hr)
 have hz:=right_fix _ (by omega) hq
 have hall:(layT 0 (Tr.mk 0 [] [] (posT ts 0) l)).all (qbo (layT 0 (Tr.mk 0 [] [] (posT ts 0) l)))=true:=by
  rw [zt]
  intro nd hm
  obtain ⟨u,hu,ho⟩:=layT_of (layT 0 (Tr.mk 0 [] [] (posT ts 0) l)) _ 0 [] [] (by simp) rfl hz nd hm
  rw [jpg ho];exact hu
 have hsz:=qnz (Tr.mk 0 [] [] (posT ts 0) l)
 have hk:((layT 0 (Tr.mk 0 [] [] (posT ts 0) l)).getD 0 nd0).kind=0:=by rw [layT];rfl
 unfold qun
 rw [hw,hk,hall,lay_lenT,zv (by omega),zv h8]
 simp
theorem jpi {s:List UInt8} (h:(qbk s).2.1≠0):(qbk s).1=[]:=by
 unfold qbk at h ⊢
 split
 ·rfl
 rename_i hn
 rw [za hn] at h
 unfold qfq at h ⊢
 simp only at h ⊢
 split
 ·rfl
 rename_i hx
 rw [za hx] at h
 split
 ·rfl
 rename_i h8
 rw [za h8] at h
 split
 ·rfl
 rename_i hd
 rw [za hd] at h
 exact absurd rfl h
end Pa
end Go.Proofs.Ythfaleaojlnnoaa
