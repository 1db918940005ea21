/- What was read is right. Nothing of the program. -/
import Derived.Test.YthfaleaojlnnoaaY3PgR
import Derived.Test.YthfaleaojlnnoaaY32
set_option linter.unusedSimpArgs false
set_option linter.unusedVariables false
namespace Go.Proofs.Ythfaleaojlnnoaa
namespace Pa
open Go Go.Sx Go.St
theorem qbk {Q:Tr→Prop} {k a:Int} {w:List (List UInt8)} {n:List Int} {l:List Tr} (h:Q (.mk k w n a l)) (hl:Tr.allL Q l):(Tr.mk k w n a l).allT Q:=by rw [Tr.allT];exact ⟨h,hl⟩
theorem qcp {Q:Tr→Prop}:Tr.allL Q []:=by rw [Tr.allL];trivial
theorem qcu {Q:Tr→Prop} {t:Tr} {r:List Tr} (h:t.allT Q) (hr:Tr.allL Q r):Tr.allL Q (t::r):=by rw [Tr.allL];exact ⟨h,hr⟩
theorem jbg {Q:Tr→Prop}:∀ l r:List Tr,Tr.allL Q l→Tr.allL Q r→Tr.allL Q (l++r)
 | [],_,_,h=>h
 | t::l,r,h,h'=>by
  rw [Tr.allL] at h
  exact qcu h.1 (jbg l r h.2 h')
theorem qle {R:Int→Int→Tr→Prop} {Q:Tr→Prop} (hR:∀ a b t,R a b t→t.allT Q):∀ (l:List Tr) (i j:Int),Seq R i j l→Tr.allL Q l
 | [],_,_,_=>qcp
 | _::r,_,_,⟨_,_,_,h,h'⟩=>qcu (hR _ _ _ h) (qle hR r _ _ h')
theorem qlf {R:Int→Int→Tr→Prop} {P:Tr→Prop} (hR:∀ a b t,R a b t→P t):∀ (l:List Tr) (i j:Int),Seq R i j l→∀ k,k<l.length→P (l.getD k Tr.none)
 | [],_,_,_,k,hk=>absurd hk (xw k)
 | _::_,_,_,⟨_,_,_,h,_⟩,0,_=>hR _ _ _ h
 | _::r,_,_,⟨_,_,_,_,h'⟩,k+1,hk=>qlf hR r _ _ h' k (by simpa using hk)
def qho (u:Tr):Prop:=u.l.length≤800→qab u=true
def jog (ts:List Lx.Tok):Alg ts where
 E _ _ t:=inK t.kind 17 22=true∧t.allT qho
 S _ _ t:=inK t.kind 6 15=true∧t.allT qho
 B _ _ t:=t.kind=16∧t.allT qho
 V _ _ t:=t.kind=2∧t.allT qho
 I _ _ t:=inK t.kind 1 5=true∧t.allT qho
 rNum h0 h1 _:=⟨rfl,qbk (fun _=>q_num h0 h1) qcp⟩
 rName hk hw _:=⟨by rcases hk with rfl|rfl <;> rfl,qbk (fun _=>jnz hk hw) qcp⟩
 rUn hk _ ht _:=⟨by rcases hk with rfl|rfl <;> rfl,qbk (fun _=>jbd (.inr hk) ht.1) (qcu ht.2 qcp)⟩
 rPar _ ht _:=ht
 rBin h0 h8 ha _ hb:=⟨rfl,qbk (fun _=>q_bin h0 h8 ha.1 hb.1) (qcu ha.2 (qcu hb.2 qcp))⟩
 rSet hk hw _ ht _:=⟨by rcases hk with rfl|rfl <;> rfl,qbk (fun _=>q_set hk hw ht.1) (qcu ht.2 qcp)⟩
 rRecv hw hv h0 h1 _:=⟨rfl,qbk (fun _=>joa hw hv h0 h1) qcp⟩
 rWhen h0 h1 _ ht _:=⟨rfl,qbk (fun _=>job h0 h1 ht.1) (qcu ht.2 qcp)⟩
 rChoose h0 h1 _ hl hn:=⟨rfl,qbk (fun h8=>joc h0 h1 (qlf (fun _ _ _ h=>h.1) _ _ _ hl) hn h8) (qle (fun _ _ _ h=>h.2) _ _ _ hl)⟩
 rIf _ he _ hb:=⟨rfl,qbk (fun _=>q_if 11 (.inl rfl) he.1 hb.1) (qcu he.2 (qcu hb.2 qcp))⟩
 rIfE _ he _ hb _ hc:=⟨rfl,qbk (fun _=>q_ife he.1 hb.1 hc.1) (qcu he.2 (qcu hb.2 (qcu hc.2 qcp)))⟩
 rWhile _ he _ hb:=⟨rfl,qbk (fun _=>q_if 12 (.inr rfl) he.1 hb.1) (qcu he.2 (qcu hb.2 qcp))⟩
 rAtom _ hb:=⟨rfl,qbk (fun _=>jod hb.1) (qcu hb.2 qcp)⟩
 rBare hk _:=⟨by rcases hk with rfl|rfl <;> rfl,qbk (fun _=>jbe (.inr hk)) qcp⟩
 rBlock _ hl _:=⟨rfl,qbk (fun _=>jbf (.inl ⟨rfl,qlf (fun _ _ _ h=>h.1) _ _ _ hl⟩)) (qle (fun _ _ _ h=>h.2) _ _ _ hl)⟩
 rVar hw h0 h1 h2 h3 _:=⟨rfl,qbk (fun _=>q_var hw h0 h1 h2 h3) qcp⟩
 rIVar h:=⟨by rw [h.1];rfl,h.2⟩
 rChan hw h0 h1 h2 h3 h4 h5 h6 h7 _:=⟨rfl,qbk (fun _=>joe hw h0 h1 h2 h3 h4 h5 h6 h7) qcp⟩
 rProc hw h0 h1 _ hv hs _:=⟨rfl,qbk (fun _=>jof hw h0 h1 (qlf (fun _ _ _ h=>h.1) _ _ _ hv) (qlf (fun _ _ _ h=>h.1) _ _ _ hs)) (jbg _ _ (qle (fun _ _ _ h=>h.2) _ _ _ hv) (qle (fun _ _ _ h=>h.2) _ _ _ hs))⟩
 rSafe _ ht _:=⟨rfl,qbk (fun _=>jbd (.inl rfl) ht.1) (qcu ht.2 qcp)⟩
 rDead _:=⟨rfl,qbk (fun _=>jbe (.inl rfl)) qcp⟩
theorem jbh:∀ l:List Tr,l.length≤Tr.sizeL l
 | []=>xh _
 | t::r=>by
  have:=qnb t
  have:=jbh r
  rw [Tr.sizeL,zh];omega
mutual
theorem right_fix:∀ t:Tr,t.size≤800→t.allT qho→t.allT (fun u=>qab u=true)
 | .mk k w n a l,h,hq=>by
  rw [Tr.allT] at hq
  rw [Tr.size] at h
  have h1:=jbh l
  exact qbk (hq.1 (by show l.length≤800;omega)) (right_fixL l (by omega) hq.2)
theorem right_fixL:∀ l:List Tr,Tr.sizeL l≤800→Tr.allL qho l→Tr.allL (fun u=>qab u=true) l
 | [],_,_=>qcp
 | t::r,h,hq=>by
  rw [Tr.allL] at hq
  rw [Tr.sizeL] at h
  exact qcu (right_fix t (by omega) hq.1) (right_fixL r (by omega) hq.2)
end
theorem joh {L:List Nd} {nd:Nd} {u:Tr} (h:NdOf L nd u):qaz L nd=qab u:=by
 have hl:nd.kids.length=u.l.length:=by
  have:=congrArg List.length h.kids
  rwa [zm,zm] at this
 refine jny h.kind h.words h.nums (by rw [qqf,hl]) (fun i hi=>?_)
 rw [qqg u i (by omega)]
 have hi':i<u.l.length:=by omega
 have:=congrArg (fun l=>l[i]?) h.kids
 simp only [zg,ze hi,ze hi',xd,Option.some.injEq,Prod.mk.injEq] at this
 unfold kidK
 rw [List.getD_eq_getElem?_getD (l:=nd.kids),ze hi,Option.getD_some,this.1,List.getD_eq_getElem?_getD,ze hi']
 rfl
theorem joi {s:List UInt8} (h:(jg s).2.1=0):qtp (jg s).1=true:=by
 unfold jg at h ⊢
 split at h
 ·rename_i hn
  exact absurd h hn
 rename_i hn
 rw [za hn]
 have he:(Lx.lexAll s).2.1=0:=Classical.byContradiction hn
 have hp:=qqc he
 obtain ⟨ht,h0⟩:=qiv he
 generalize (Lx.lexAll s).1=ts at hp ht h0 h ⊢
 have hA:AtOk ts ⟨0,0,0,0⟩:=⟨zp _,by simp only;omega⟩
 unfold qdy at h ⊢
 simp only at h ⊢
 split at h
 ·rename_i hx
  exact absurd h hx
 rename_i hx
 rw [za hx]
 have hx:(jj ts ⟨0,0,0,0⟩).2.err=0:=Classical.byContradiction hx
 split at h
 ·simp at h
 rename_i h8
 rw [za h8]
 split at h
 ·simp at h
 rename_i hd
 rw [za hd]
 obtain ⟨l,j,e,hs,hj⟩:=quk ht hA hx
 obtain ⟨l',e',hr⟩:=jax ht (jog ts) hA hx
 obtain rfl:l=l':=by rw [e] at e';injection e'
 have e:(jj ts ⟨0,0,0,0⟩).1=.mk 0 [] [] (posT ts 0) l:=e
 rw [e] at h8 hd ⊢
 rw [lay_lenT] at h8
 have hnn:(Tr.mk 0 [] [] (posT ts 0) l).allT (fun u=>0≤u.at_):=by
  refine qbk ?_ (spL_nonneg (fun t hm=>(hp.1 t hm).1) l _ j hs (zp _) (by omega))
  obtain ⟨t,hm,e2⟩:=qld (ts:=ts) (i:=0) (zp _) (by omega)
  have:=(hp.1 t hm).1
  show 0≤posT ts 0
  omega
 have hw:=jnu _ hnn hd
 have hq:(Tr.mk 0 [] [] (posT ts 0) l).allT qho:=qbk (fun _=>jbf (.inr ⟨rfl,qlf (fun _ _ _ h=>h.1) _ _ _ hr⟩)) (qle (fun _ _ _ h=>h.2) _ _ _ hr)
 have hz:=right_fix _ (by omega) hq
 have hall:(layT 0 (Tr.mk 0 [] [] (posT ts 0) l)).all (qaz (layT 0 (Tr.mk 0 [] [] (posT ts 0) l)))=true:=by
  rw [zu]
  intro nd hm
  obtain ⟨u,hu,ho⟩:=layT_of (layT 0 (Tr.mk 0 [] [] (posT ts 0) l)) _ 0 [] [] (by simp) rfl hz nd hm
  rw [joh ho];exact hu
 have hsz:=qnb (Tr.mk 0 [] [] (posT ts 0) l)
 have hk:((layT 0 (Tr.mk 0 [] [] (posT ts 0) l)).getD 0 nd0).kind=0:=by rw [layT];rfl
 unfold qtp
 rw [hw,hk,hall,lay_lenT,zv (by omega),zv h8]
 simp
theorem joj {s:List UInt8} (h:(jg s).2.1≠0):(jg s).1=[]:=by
 unfold jg at h ⊢
 split
 ·rfl
 rename_i hn
 rw [za hn] at h
 unfold qdy at h ⊢
 simp only at h ⊢
 split
 ·rfl
 rename_i hx
 rw [za hx] at h
 split
 ·rfl
 rename_i h8
 rw [za h8] at h
 split
 ·rfl
 rename_i hd
 rw [za hd] at h
 exact absurd rfl h
end Pa
end Go.Proofs.Ythfaleaojlnnoaa
