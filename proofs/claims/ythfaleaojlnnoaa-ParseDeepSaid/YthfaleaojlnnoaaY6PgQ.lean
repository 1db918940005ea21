/- What was read is right. Nothing of the program. -/
import Derived.Test.YthfaleaojlnnoaaY637
import Derived.Test.YthfaleaojlnnoaaY62
set_option linter.unusedSimpArgs false
set_option linter.unusedVariables false
namespace Go.Proofs.Ythfaleaojlnnoaa
namespace Pa
open Go Go.Sx Go.St
theorem qcf {Q:Tr→Prop} {k a:Int} {w:List (List UInt8)} {n:List Int} {l:List Tr} (h:Q (.mk k w n a l)) (hl:Tr.allL Q l):(Tr.mk k w n a l).allT Q:=by rw [Tr.allT];exact ⟨h,hl⟩
theorem qdd {Q:Tr→Prop}:Tr.allL Q []:=by rw [Tr.allL];trivial
theorem qdj {Q:Tr→Prop} {t:Tr} {r:List Tr} (h:t.allT Q) (hr:Tr.allL Q r):Tr.allL Q (t::r):=by rw [Tr.allL];exact ⟨h,hr⟩
theorem jdb {Q:Tr→Prop}:∀ l r:List Tr,Tr.allL Q l→Tr.allL Q r→Tr.allL Q (l++r)
 | [],_,_,h=>h
 | t::l,r,h,h'=>by
  rw [Tr.allL] at h
  exact qdj h.1 (jdb l r h.2 h')
theorem qme {R:Int→Int→Tr→Prop} {Q:Tr→Prop} (hR:∀ a b t,R a b t→t.allT Q):∀ (l:List Tr) (i j:Int),Seq R i j l→Tr.allL Q l
 | [],_,_,_=>qdd
 | _::r,_,_,⟨_,_,_,h,h'⟩=>qdj (hR _ _ _ h) (qme hR r _ _ h')
theorem qmf {R:Int→Int→Tr→Prop} {P:Tr→Prop} (hR:∀ a b t,R a b t→P t):∀ (l:List Tr) (i j:Int),Seq R i j l→∀ k,k<l.length→P (l.getD k Tr.none)
 | [],_,_,_,k,hk=>absurd hk (xc k)
 | _::_,_,_,⟨_,_,_,h,_⟩,0,_=>hR _ _ _ h
 | _::r,_,_,⟨_,_,_,_,h'⟩,k+1,hk=>qmf hR r _ _ h' k (by simpa using hk)
def qin (u:Tr):Prop:=u.l.length≤800→qai u=true
def jpz (ts:List Lx.Tok):Alg ts where
 E _ _ t:=inK t.kind 17 22=true∧t.allT qin
 S _ _ t:=inK t.kind 6 15=true∧t.allT qin
 B _ _ t:=t.kind=16∧t.allT qin
 V _ _ t:=t.kind=2∧t.allT qin
 I _ _ t:=inK t.kind 1 5=true∧t.allT qin
 rNum h0 h1 _:=⟨rfl,qcf (fun _=>q_num h0 h1) qdd⟩
 rName hk hw _:=⟨by rcases hk with rfl|rfl <;> rfl,qcf (fun _=>jps hk hw) qdd⟩
 rUn hk _ ht _:=⟨by rcases hk with rfl|rfl <;> rfl,qcf (fun _=>jcy (.inr hk) ht.1) (qdj ht.2 qdd)⟩
 rPar _ ht _:=ht
 rBin h0 h8 ha _ hb:=⟨rfl,qcf (fun _=>q_bin h0 h8 ha.1 hb.1) (qdj ha.2 (qdj hb.2 qdd))⟩
 rSet hk hw _ ht _:=⟨by rcases hk with rfl|rfl <;> rfl,qcf (fun _=>q_set hk hw ht.1) (qdj ht.2 qdd)⟩
 rRecv hw hv h0 h1 _:=⟨rfl,qcf (fun _=>jpt hw hv h0 h1) qdd⟩
 rWhen h0 h1 _ ht _:=⟨rfl,qcf (fun _=>jpu h0 h1 ht.1) (qdj ht.2 qdd)⟩
 rChoose h0 h1 _ hl hn:=⟨rfl,qcf (fun h8=>jpv h0 h1 (qmf (fun _ _ _ h=>h.1) _ _ _ hl) hn h8) (qme (fun _ _ _ h=>h.2) _ _ _ hl)⟩
 rIf _ he _ hb:=⟨rfl,qcf (fun _=>q_if 11 (.inl rfl) he.1 hb.1) (qdj he.2 (qdj hb.2 qdd))⟩
 rIfE _ he _ hb _ hc:=⟨rfl,qcf (fun _=>q_ife he.1 hb.1 hc.1) (qdj he.2 (qdj hb.2 (qdj hc.2 qdd)))⟩
 rWhile _ he _ hb:=⟨rfl,qcf (fun _=>q_if 12 (.inr rfl) he.1 hb.1) (qdj he.2 (qdj hb.2 qdd))⟩
 rAtom _ hb:=⟨rfl,qcf (fun _=>jpw hb.1) (qdj hb.2 qdd)⟩
 rBare hk _:=⟨by rcases hk with rfl|rfl <;> rfl,qcf (fun _=>jcz (.inr hk)) qdd⟩
 rBlock _ hl _:=⟨rfl,qcf (fun _=>jda (.inl ⟨rfl,qmf (fun _ _ _ h=>h.1) _ _ _ hl⟩)) (qme (fun _ _ _ h=>h.2) _ _ _ hl)⟩
 rVar hw h0 h1 h2 h3 _:=⟨rfl,qcf (fun _=>q_var hw h0 h1 h2 h3) qdd⟩
 rIVar h:=⟨by rw [h.1];rfl,h.2⟩
 rChan hw h0 h1 h2 h3 h4 h5 h6 h7 _:=⟨rfl,qcf (fun _=>jpx hw h0 h1 h2 h3 h4 h5 h6 h7) qdd⟩
 rProc hw h0 h1 _ hv hs _:=⟨rfl,qcf (fun _=>jpy hw h0 h1 (qmf (fun _ _ _ h=>h.1) _ _ _ hv) (qmf (fun _ _ _ h=>h.1) _ _ _ hs)) (jdb _ _ (qme (fun _ _ _ h=>h.2) _ _ _ hv) (qme (fun _ _ _ h=>h.2) _ _ _ hs))⟩
 rSafe _ ht _:=⟨rfl,qcf (fun _=>jcy (.inl rfl) ht.1) (qdj ht.2 qdd)⟩
 rDead _:=⟨rfl,qcf (fun _=>jcz (.inl rfl)) qdd⟩
theorem jdc:∀ l:List Tr,l.length≤Tr.sizeL l
 | []=>xa _
 | t::r=>by
  have:=qoh t
  have:=jdc r
  rw [Tr.sizeL,zn];omega
mutual
theorem right_fix:∀ t:Tr,t.size≤800→t.allT qin→t.allT (fun u=>qai u=true)
 | .mk k w n a l,h,hq=>by
  rw [Tr.allT] at hq
  rw [Tr.size] at h
  have h1:=jdc l
  exact qcf (hq.1 (by show l.length≤800;omega)) (right_fixL l (by omega) hq.2)
theorem right_fixL:∀ l:List Tr,Tr.sizeL l≤800→Tr.allL qin l→Tr.allL (fun u=>qai u=true) l
 | [],_,_=>qdd
 | t::r,h,hq=>by
  rw [Tr.allL] at hq
  rw [Tr.sizeL] at h
  exact qdj (right_fix t (by omega) hq.1) (right_fixL r (by omega) hq.2)
end
theorem jqa {L:List Nd} {nd:Nd} {u:Tr} (h:NdOf L nd u):qbo L nd=qai u:=by
 have hl:nd.kids.length=u.l.length:=by
  have:=congrArg List.length h.kids
  rwa [zt,zt] at this
 refine jpr h.kind h.words h.nums (by rw [qri,hl]) (fun i hi=>?_)
 rw [qrj u i (by omega)]
 have hi':i<u.l.length:=by omega
 have:=congrArg (fun l=>l[i]?) h.kids
 simp only [zg,zf hi,zf hi',xj,Option.some.injEq,Prod.mk.injEq] at this
 unfold kidK
 rw [List.getD_eq_getElem?_getD (l:=nd.kids),zf hi,zau,this.1,List.getD_eq_getElem?_getD,zf hi']
 rfl
theorem jqb {s:List UInt8} (h:(qan s).2.1=0):quz (qan s).1=true:=by
 unfold qan at h ⊢
 split at h
 ·rename_i hn
  exact absurd h hn
 rename_i hn
 rw [za hn]
 have he:(Lx.lexAll s).2.1=0:=Classical.byContradiction hn
 have hp:=jcs he
 obtain ⟨ht,h0⟩:=qqs he
 generalize (Lx.lexAll s).1=ts at hp ht h0 h ⊢
 have hA:AtOk ts ⟨0,0,0,0⟩:=⟨zm _,by simp only;omega⟩
 unfold qeq at h ⊢
 simp only at h ⊢
 split at h
 ·rename_i hx
  exact absurd h hx
 rename_i hx
 rw [za hx]
 have hx:(jk ts ⟨0,0,0,0⟩).2.err=0:=Classical.byContradiction hx
 split at h
 ·simp at h
 rename_i h8
 rw [za h8]
 split at h
 ·simp at h
 rename_i hd
 rw [za hd]
 obtain ⟨l,j,e,hs,hj⟩:=jcr ht hA hx
 obtain ⟨l',e',hr⟩:=jcq ht (jpz ts) hA hx
 obtain rfl:l=l':=by rw [e] at e';injection e'
 have e:(jk ts ⟨0,0,0,0⟩).1=.mk 0 [] [] (posT ts 0) l:=e
 rw [e] at h8 hd ⊢
 rw [lay_lenT] at h8
 have hnn:(Tr.mk 0 [] [] (posT ts 0) l).allT (fun u=>0≤u.at_):=by
  refine qcf ?_ (spL_nonneg (fun t hm=>(hp.1 t hm).1) l _ j hs (zm _) (by omega))
  obtain ⟨t,hm,e2⟩:=qog (ts:=ts) (i:=0) (zm _) (by omega)
  have:=(hp.1 t hm).1
  show 0≤posT ts 0
  omega
 have hw:=jpn _ hnn hd
 have hq:(Tr.mk 0 [] [] (posT ts 0) l).allT qin:=qcf (fun _=>jda (.inr ⟨rfl,qmf (fun _ _ _ h=>h.1) _ _ _ hr⟩)) (qme (fun _ _ _ h=>h.2) _ _ _ hr)
 have hz:=right_fix _ (by omega) hq
 have hall:(layT 0 (Tr.mk 0 [] [] (posT ts 0) l)).all (qbo (layT 0 (Tr.mk 0 [] [] (posT ts 0) l)))=true:=by
  rw [zu]
  intro nd hm
  obtain ⟨u,hu,ho⟩:=layT_of (layT 0 (Tr.mk 0 [] [] (posT ts 0) l)) _ 0 [] [] (by simp) rfl hz nd hm
  rw [jqa ho];exact hu
 have hsz:=qoh (Tr.mk 0 [] [] (posT ts 0) l)
 have hk:((layT 0 (Tr.mk 0 [] [] (posT ts 0) l)).getD 0 nd0).kind=0:=by rw [layT];rfl
 unfold quz
 rw [hw,hk,hall,lay_lenT,zw (by omega),zw h8]
 simp
theorem jqc {s:List UInt8} (h:(qan s).2.1≠0):(qan s).1=[]:=by
 unfold qan at h ⊢
 split
 ·rfl
 rename_i hn
 rw [za hn] at h
 unfold qeq at h ⊢
 simp only at h ⊢
 split
 ·rfl
 rename_i hx
 rw [za hx] at h
 split
 ·rfl
 rename_i h8
 rw [za h8] at h
 split
 ·rfl
 rename_i hd
 rw [za hd] at h
 exact absurd rfl h
end Pa
end Go.Proofs.Ythfaleaojlnnoaa
