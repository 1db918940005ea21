/- What was read is right. Nothing of the program. -/
import Derived.Test.YthfaleaojlnnoaaY1PgR
import Derived.Test.YthfaleaojlnnoaaY12
set_option linter.unusedSimpArgs false
set_option linter.unusedVariables false
namespace Go.Proofs.Ythfaleaojlnnoaa
namespace Pa
open Go Go.Sx Go.St
theorem qbd {Q:Tr→Prop} {k a:Int} {w:List (List UInt8)} {n:List Int} {l:List Tr} (h:Q (.mk k w n a l)) (hl:Tr.allL Q l):(Tr.mk k w n a l).allT Q:=by rw [Tr.allT];exact ⟨h,hl⟩
theorem qck {Q:Tr→Prop}:Tr.allL Q []:=by rw [Tr.allL];trivial
theorem qco {Q:Tr→Prop} {t:Tr} {r:List Tr} (h:t.allT Q) (hr:Tr.allL Q r):Tr.allL Q (t::r):=by rw [Tr.allL];exact ⟨h,hr⟩
theorem jag {Q:Tr→Prop}:∀ l r:List Tr,Tr.allL Q l→Tr.allL Q r→Tr.allL Q (l++r)
 | [],_,_,h=>h
 | t::l,r,h,h'=>by
  rw [Tr.allL] at h
  exact qco h.1 (jag l r h.2 h')
theorem qko {R:Int→Int→Tr→Prop} {Q:Tr→Prop} (hR:∀ a b t,R a b t→t.allT Q):∀ (l:List Tr) (i j:Int),Seq R i j l→Tr.allL Q l
 | [],_,_,_=>qck
 | _::r,_,_,⟨_,_,_,h,h'⟩=>qco (hR _ _ _ h) (qko hR r _ _ h')
theorem qkp {R:Int→Int→Tr→Prop} {P:Tr→Prop} (hR:∀ a b t,R a b t→P t):∀ (l:List Tr) (i j:Int),Seq R i j l→∀ k,k<l.length→P (l.getD k Tr.none)
 | [],_,_,_,k,hk=>absurd hk (xq k)
 | _::_,_,_,⟨_,_,_,h,_⟩,0,_=>hR _ _ _ h
 | _::r,_,_,⟨_,_,_,_,h'⟩,k+1,hk=>qkp hR r _ _ h' k (by simpa using hk)
def qhd (u:Tr):Prop:=u.l.length≤800→jx u=true
def jmi (ts:List Lx.Tok):Alg ts where
 E _ _ t:=inK t.kind 17 22=true∧t.allT qhd
 S _ _ t:=inK t.kind 6 15=true∧t.allT qhd
 B _ _ t:=t.kind=16∧t.allT qhd
 V _ _ t:=t.kind=2∧t.allT qhd
 I _ _ t:=inK t.kind 1 5=true∧t.allT qhd
 rNum h0 h1 _:=⟨rfl,qbd (fun _=>q_num h0 h1) qck⟩
 rName hk hw _:=⟨by rcases hk with rfl|rfl <;> rfl,qbd (fun _=>jmb hk hw) qck⟩
 rUn hk _ ht _:=⟨by rcases hk with rfl|rfl <;> rfl,qbd (fun _=>jad (.inr hk) ht.1) (qco ht.2 qck)⟩
 rPar _ ht _:=ht
 rBin h0 h8 ha _ hb:=⟨rfl,qbd (fun _=>q_bin h0 h8 ha.1 hb.1) (qco ha.2 (qco hb.2 qck))⟩
 rSet hk hw _ ht _:=⟨by rcases hk with rfl|rfl <;> rfl,qbd (fun _=>q_set hk hw ht.1) (qco ht.2 qck)⟩
 rRecv hw hv h0 h1 _:=⟨rfl,qbd (fun _=>jmc hw hv h0 h1) qck⟩
 rWhen h0 h1 _ ht _:=⟨rfl,qbd (fun _=>jmd h0 h1 ht.1) (qco ht.2 qck)⟩
 rChoose h0 h1 _ hl hn:=⟨rfl,qbd (fun h8=>jme h0 h1 (qkp (fun _ _ _ h=>h.1) _ _ _ hl) hn h8) (qko (fun _ _ _ h=>h.2) _ _ _ hl)⟩
 rIf _ he _ hb:=⟨rfl,qbd (fun _=>q_if 11 (.inl rfl) he.1 hb.1) (qco he.2 (qco hb.2 qck))⟩
 rIfE _ he _ hb _ hc:=⟨rfl,qbd (fun _=>q_ife he.1 hb.1 hc.1) (qco he.2 (qco hb.2 (qco hc.2 qck)))⟩
 rWhile _ he _ hb:=⟨rfl,qbd (fun _=>q_if 12 (.inr rfl) he.1 hb.1) (qco he.2 (qco hb.2 qck))⟩
 rAtom _ hb:=⟨rfl,qbd (fun _=>jmf hb.1) (qco hb.2 qck)⟩
 rBare hk _:=⟨by rcases hk with rfl|rfl <;> rfl,qbd (fun _=>jae (.inr hk)) qck⟩
 rBlock _ hl _:=⟨rfl,qbd (fun _=>jaf (.inl ⟨rfl,qkp (fun _ _ _ h=>h.1) _ _ _ hl⟩)) (qko (fun _ _ _ h=>h.2) _ _ _ hl)⟩
 rVar hw h0 h1 h2 h3 _:=⟨rfl,qbd (fun _=>q_var hw h0 h1 h2 h3) qck⟩
 rIVar h:=⟨by rw [h.1];rfl,h.2⟩
 rChan hw h0 h1 h2 h3 h4 h5 h6 h7 _:=⟨rfl,qbd (fun _=>jmg hw h0 h1 h2 h3 h4 h5 h6 h7) qck⟩
 rProc hw h0 h1 _ hv hs _:=⟨rfl,qbd (fun _=>jmh hw h0 h1 (qkp (fun _ _ _ h=>h.1) _ _ _ hv) (qkp (fun _ _ _ h=>h.1) _ _ _ hs)) (jag _ _ (qko (fun _ _ _ h=>h.2) _ _ _ hv) (qko (fun _ _ _ h=>h.2) _ _ _ hs))⟩
 rSafe _ ht _:=⟨rfl,qbd (fun _=>jad (.inl rfl) ht.1) (qco ht.2 qck)⟩
 rDead _:=⟨rfl,qbd (fun _=>jae (.inl rfl)) qck⟩
theorem jah:∀ l:List Tr,l.length≤Tr.sizeL l
 | []=>xt _
 | t::r=>by
  have:=qkn t
  have:=jah r
  rw [Tr.sizeL,zo];omega
mutual
theorem right_fix:∀ t:Tr,t.size≤800→t.allT qhd→t.allT (fun u=>jx u=true)
 | .mk k w n a l,h,hq=>by
  rw [Tr.allT] at hq
  rw [Tr.size] at h
  have h1:=jah l
  exact qbd (hq.1 (by show l.length≤800;omega)) (right_fixL l (by omega) hq.2)
theorem right_fixL:∀ l:List Tr,Tr.sizeL l≤800→Tr.allL qhd l→Tr.allL (fun u=>jx u=true) l
 | [],_,_=>qck
 | t::r,h,hq=>by
  rw [Tr.allL] at hq
  rw [Tr.sizeL] at h
  exact qco (right_fix t (by omega) hq.1) (right_fixL r (by omega) hq.2)
end
theorem jmj {L:List Nd} {nd:Nd} {u:Tr} (h:NdOf L nd u):qaw L nd=jx u:=by
 have hl:nd.kids.length=u.l.length:=by
  have:=congrArg List.length h.kids
  rwa [zr,zr] at this
 refine jma h.kind h.words h.nums (by rw [qpj,hl]) (fun i hi=>?_)
 rw [qpk u i (by omega)]
 have hi':i<u.l.length:=by omega
 have:=congrArg (fun l=>l[i]?) h.kids
 simp only [zg,ze hi,ze hi',xc,Option.some.injEq,Prod.mk.injEq] at this
 unfold kidK
 rw [List.getD_eq_getElem?_getD (l:=nd.kids),ze hi,Option.getD_some,this.1,List.getD_eq_getElem?_getD,ze hi']
 rfl
theorem jmk {s:List UInt8} (h:(jr s).2.1=0):qss (jr s).1=true:=by
 unfold jr at h ⊢
 split at h
 ·rename_i hn
  exact absurd h hn
 rename_i hn
 rw [za hn]
 have he:(Lx.lexAll s).2.1=0:=Classical.byContradiction hn
 have hp:=qto he
 obtain ⟨ht,h0⟩:=qot he
 generalize (Lx.lexAll s).1=ts at hp ht h0 h ⊢
 have hA:AtOk ts ⟨0,0,0,0⟩:=⟨zm _,by simp only;omega⟩
 unfold qfz at h ⊢
 simp only at h ⊢
 split at h
 ·rename_i hx
  exact absurd h hx
 rename_i hx
 rw [za hx]
 have hx:(qad ts ⟨0,0,0,0⟩).2.err=0:=Classical.byContradiction hx
 split at h
 ·simp at h
 rename_i h8
 rw [za h8]
 split at h
 ·simp at h
 rename_i hd
 rw [za hd]
 obtain ⟨l,j,e,hs,hj⟩:=qtn ht hA hx
 obtain ⟨l',e',hr⟩:=qzx ht (jmi ts) hA hx
 obtain rfl:l=l':=by rw [e] at e';injection e'
 have e:(qad ts ⟨0,0,0,0⟩).1=.mk 0 [] [] (posT ts 0) l:=e
 rw [e] at h8 hd ⊢
 rw [lay_lenT] at h8
 have hnn:(Tr.mk 0 [] [] (posT ts 0) l).allT (fun u=>0≤u.at_):=by
  refine qbd ?_ (spL_nonneg (fun t hm=>(hp.1 t hm).1) l _ j hs (zm _) (by omega))
  obtain ⟨t,hm,e2⟩:=qkm (ts:=ts) (i:=0) (zm _) (by omega)
  have:=(hp.1 t hm).1
  show 0≤posT ts 0
  omega
 have hw:=jlw _ hnn hd
 have hq:(Tr.mk 0 [] [] (posT ts 0) l).allT qhd:=qbd (fun _=>jaf (.inr ⟨rfl,qkp (fun _ _ _ h=>h.1) _ _ _ hr⟩)) (qko (fun _ _ _ h=>h.2) _ _ _ hr)
 have hz:=right_fix _ (by omega) hq
 have hall:(layT 0 (Tr.mk 0 [] [] (posT ts 0) l)).all (qaw (layT 0 (Tr.mk 0 [] [] (posT ts 0) l)))=true:=by
  rw [zs]
  intro nd hm
  obtain ⟨u,hu,ho⟩:=layT_of (layT 0 (Tr.mk 0 [] [] (posT ts 0) l)) _ 0 [] [] (by simp) rfl hz nd hm
  rw [jmj ho];exact hu
 have hsz:=qkn (Tr.mk 0 [] [] (posT ts 0) l)
 have hk:((layT 0 (Tr.mk 0 [] [] (posT ts 0) l)).getD 0 nd0).kind=0:=by rw [layT];rfl
 unfold qss
 rw [hw,hk,hall,lay_lenT,zt (by omega),zt h8]
 simp
theorem jai {s:List UInt8} (h:(jr s).2.1≠0):(jr s).1=[]:=by
 unfold jr at h ⊢
 split
 ·rfl
 rename_i hn
 rw [za hn] at h
 unfold qfz at h ⊢
 simp only at h ⊢
 split
 ·rfl
 rename_i hx
 rw [za hx] at h
 split
 ·rfl
 rename_i h8
 rw [za h8] at h
 split
 ·rfl
 rename_i hd
 rw [za hd] at h
 exact absurd rfl h
end Pa
end Go.Proofs.Ythfaleaojlnnoaa
