/- Some texts of the library, one behind the other. -/
import Derived.Test.YthfaleaojlnnoaaY340
import Derived.Test.YthfaleaojlnnoaaY32
set_option linter.unusedSimpArgs false
set_option linter.unusedVariables false
section
namespace Go.Proofs.Ythfaleaojlnnoaa
namespace Pa
open Go Go.Sx
def zN (n:Nd):Nd:={ n with at_:=0 }
mutual
theorem z_size:∀ t:Tr,(zT t).size=t.size
 | .mk k w n a l=>by rw [qal,Tr.size,Tr.size,z_sizeL l]
theorem z_sizeL:∀ l:List Tr,Tr.sizeL (zL l)=Tr.sizeL l
 | []=>by rw [qaf]
 | t::r=>by rw [qcq,Tr.sizeL,Tr.sizeL,z_size t,z_sizeL r]
end
theorem jcb:∀ (n:Nat) (l:List Tr),qy n (zL l)=qy n l
 | n,[]=>by rw [qaf]
 | n,t::r=>by rw [qcq,qy,qy,z_size,jcb _ r]
mutual
theorem z_lay:∀ (n:Nat) (t:Tr),layT n (zT t)=(layT n t).map zN
 | n,.mk k w ns a l=>by rw [qal,layT,layT,xf,jcb,z_layL (n+1) l];rfl
theorem z_layL:∀ (n:Nat) (l:List Tr),layL n (zL l)=(layL n l).map zN
 | n,[]=>by rw [qaf,layL];rfl
 | n,t::r=>by rw [qcq,layL,layL,List.map_append,z_size,z_lay n t,z_layL _ r]
end
mutual
theorem z_deep:∀ (t:Tr) (n:Int),t.allT (fun u=>0≤u.at_)→(0≤deepT (zT t) n↔0≤deepT t n)
 | .mk k w ns a l,n,h=>by
  rw [Tr.allT] at h
  have h1:0≤a:=h.1
  rw [qal,deepT,deepT]
  split
  ·exact ⟨fun _=>h1,fun _=>zp _⟩
  ·exact z_deepL l n h.2
theorem z_deepL:∀ (l:List Tr) (n:Int),Tr.allL (fun u=>0≤u.at_) l→(0≤deepL (zL l) n↔0≤deepL l n)
 | [],n,_=>by rw [qaf]
 | t::r,n,h=>by
  rw [Tr.allL] at h
  have h1:=z_deep t (n+1) h.1
  have h2:=z_deepL r n h.2
  rw [qcq,deepL,deepL]
  by_cases h3:0≤deepT t (n+1)
  ·rw [zb (h1.2 h3),zb h3];exact h1
  ·rw [za (fun h=>h3 (h1.1 h)),za h3];exact h2
end
theorem jcc {ts:List Lx.Tok} (ht:ToksOk ts) (h0:0<ts.length) (hp:∀ t∈ts,0≤t.pos) (hx:(jj ts ⟨0,0,0,0⟩).2.err=0):(jj ts ⟨0,0,0,0⟩).1.allT (fun u=>0≤u.at_):=by
 have hA:AtOk ts ⟨0,0,0,0⟩:=⟨zp _,by simp only;omega⟩
 obtain ⟨l,j,e,hs,hj⟩:=quk ht hA hx
 rw [e]
 refine qbk ?_ (spL_nonneg hp l _ j hs (zp _) (by omega))
 obtain ⟨t,hm,e2⟩:=qld (ts:=ts) (i:=0) (zp _) (by omega)
 have:=hp t hm
 show 0≤posT ts 0
 omega
theorem jou {ts us:List Lx.Tok} (ht:ToksOk ts) (hu:ToksOk us) (h0:0<ts.length) (h0':0<us.length) (hp:∀ t∈ts,0≤t.pos) (hp':∀ t∈us,0≤t.pos) (h:ts.map zTok=us.map zTok) :
  (qdy ts).2.1=(qdy us).2.1∧(qdy ts).1.map zN=(qdy us).1.map zN:=by
 have e1:=jca ts ⟨0,0,0,0⟩
 have e2:=jca us ⟨0,0,0,0⟩
 rw [h,e2] at e1
 have n1:=jcc ht h0 hp
 have n2:=jcc hu h0' hp'
 have ee:(jj us ⟨0,0,0,0⟩).2.err=(jj ts ⟨0,0,0,0⟩).2.err:=congrArg (fun r=>r.2.err) e1
 have et:zT (jj us ⟨0,0,0,0⟩).1=zT (jj ts ⟨0,0,0,0⟩).1:=congrArg (fun r=>r.1) e1
 unfold qdy
 simp only
 rw [ee]
 rw [ee] at n2
 generalize jj us ⟨0,0,0,0⟩=R at n2 et ⊢
 generalize jj ts ⟨0,0,0,0⟩=T at n1 n2 et ⊢
 by_cases hx:T.2.err=0
 ·have hx':¬ T.2.err≠0:=fun h=>h hx
  simp only [za hx']
  have el:(layT 0 R.1).map zN=(layT 0 T.1).map zN:=by rw [← z_lay,← z_lay,et]
  have en:(layT 0 R.1).length=(layT 0 T.1).length:=by have:=congrArg List.length el;simpa using this
  have ed:0≤deepT R.1 1↔0≤deepT T.1 1:=by rw [← z_deep R.1 1 (n2 hx),et,z_deep T.1 1 (n1 hx)]
  rw [en]
  by_cases h8:800<(layT 0 T.1).length
  ·simp only [zb h8];exact ⟨trivial,trivial⟩
  simp only [za h8]
  by_cases hd:0≤deepT T.1 1
  ·simp only [zb hd,zb (ed.2 hd)];exact ⟨trivial,trivial⟩
  ·simp only [za hd,za (fun h=>hd (ed.1 h))];exact ⟨trivial,el.symm⟩
 ·have hx':T.2.err≠0:=hx
  simp only [zb hx'];exact ⟨trivial,trivial⟩
theorem jov {s t:List UInt8} (hs:(Lx.lexAll s).2.1=0) (ht:(Lx.lexAll t).2.1=0) (h:(Lx.lexAll s).1.map zTok=(Lx.lexAll t).1.map zTok) :
  (jg s).2.1=(jg t).2.1∧(jg s).1.map zN=(jg t).1.map zN:=by
 unfold jg
 rw [za (fun h=>h hs),za (fun h=>h ht)]
 exact jou (qiv hs).1 (qiv ht).1 (qiv hs).2 (qiv ht).2 (fun x hx=>((qqc hs).1 x hx).1) (fun x hx=>((qqc ht).1 x hx).1) h
end Pa
end Go.Proofs.Ythfaleaojlnnoaa
end
section
namespace Go.Proofs.Ythfaleaojlnnoaa
namespace Pa
open Go Go.Sx
theorem qup {p:UInt8→Bool} {c:UInt8} {r:List UInt8} (hc:p c=false):∀ x:List UInt8,(∀ b∈x,p b=true)→Lx.spanN p (x++c::r)=x.length
 | [],_=>by
  show Lx.spanN p (c::r)=0
  rw [Lx.spanN,hc];rfl
 | b::x,h=>by
  rw [xk,Lx.spanN,zb (h b (xx ..)),qup hc x (fun y hy=>h y (xm _ hy)),zh]
  omega
abbrev Gap (c:UInt8):Prop:=c=10∨c=32
theorem jow {c:UInt8} (h:Gap c):Lx.wordB c=false∧Lx.digB c=false∧Lx.blankB c=true:=by
 rcases h with rfl|rfl <;> decide +kernel
theorem jox {l:List UInt8} (h0:Lx.firstN l≠0) {c:UInt8} (hc:Gap c) (r:List UInt8) :
  Lx.firstN (l.take (Lx.firstN l)++c::r)=(l.take (Lx.firstN l)).length∧Lx.firstK (l.take (Lx.firstN l)++c::r)=Lx.firstK l:=by
 cases l with
 | nil=>exact absurd rfl h0
 | cons b t=>
  obtain ⟨k,hk⟩:∃ k,Lx.firstN (b::t)=k+1:=⟨Lx.firstN (b::t) - 1,by omega⟩
  have hle:=Lx.firstN_le b t
  refine ⟨?_,by rw [hk,xy];rfl⟩
  have hw:=jow hc
  rw [hk,xy,xk]
  unfold Lx.firstN at hk h0 ⊢
  simp only at hk h0 ⊢
  by_cases h2:Lx.cls (b.toNat:Int)=2
  ·rw [zb h2] at hk ⊢
   have h3:=qpo Lx.wordB (b::t)
   rw [hk] at h3
   have:=qup (r:=r) hw.1 _ h3
   rw [xy,xk] at this
   exact this
  rw [za h2] at hk ⊢
  by_cases h3:Lx.cls (b.toNat:Int)=3
  ·rw [zb h3] at hk ⊢
   split at hk
   ·omega
   rename_i h6
   have h4:=qpo Lx.digB (b::t)
   rw [hk] at h4
   have:=qup (r:=r) hw.2.1 _ h4
   rw [xy,xk] at this
   rw [this,za]
   rw [zh,xc]
   omega
  rw [za h3] at hk ⊢
  unfold Lx.signN at hk ⊢
  by_cases hs:([61,61].isPrefixOf (b::t) || [38,38].isPrefixOf (b::t) || [124,124].isPrefixOf (b::t))=true
  ·rw [zb hs] at hk
   obtain rfl:k=1:=by omega
   cases t with
   | nil=>simp [List.isPrefixOf] at hs
   | cons d t=>
    have hs':([61,61].isPrefixOf (b::(List.take 1 (d::t)++c::r)) || [38,38].isPrefixOf (b::(List.take 1 (d::t)++c::r)) || [124,124].isPrefixOf (b::(List.take 1 (d::t)++c::r)))=true:=by
     simpa [List.isPrefixOf] using hs
    rw [zb hs']
    rfl
  ·rw [za hs] at hk
   simp only at hk
   split at hk
   ·rename_i h5
    obtain rfl:k=0:=by omega
    have hs':¬ ([61,61].isPrefixOf (b::(List.take 0 t++c::r)) || [38,38].isPrefixOf (b::(List.take 0 t++c::r)) || [124,124].isPrefixOf (b::(List.take 0 t++c::r)))=true:=by
     rcases hc with rfl|rfl <;> simp [List.isPrefixOf]
    rw [za hs']
    simp only
    rw [zb h5]
    rfl
   ·omega
end Pa
end Go.Proofs.Ythfaleaojlnnoaa
end
section
namespace Go.Proofs.Ythfaleaojlnnoaa
namespace Pa
open Go Go.Sx
structure SepOk (sep:List UInt8):Prop where
 head:∃ c r,sep=c::r∧Gap c
 skip:∀ (r:List UInt8) (q:Nat),Lx.lexR (sep++r) q=Lx.lexR r (q+sep.length)
theorem joy:SepOk [10]:=⟨⟨10,[],rfl,.inl rfl⟩,fun r q=>by
 show Lx.lexR (10::r) q=_
 rw [Lx.lexR_cons,zb (by decide +kernel)];rfl⟩
theorem joz:SepOk [32,47,47,10]:=⟨⟨32,_,rfl,.inr rfl⟩,fun r q=>by
 show Lx.lexR (32::47::47::10::r) q=_
 have e:Lx.lineN (47::10::r)=1:=by
  unfold Lx.lineN
  rw [Lx.spanN,zb (by decide +kernel),Lx.spanN,za (by decide +kernel)]
 rw [Lx.lexR_cons,zb (by decide +kernel),Lx.lexR_cons,za (by decide +kernel),zb (by rfl),e]
 show Lx.lexR (10::r) _=_
 rw [Lx.lexR_cons,zb (by decide +kernel)];rfl⟩
theorem jpa {b c:UInt8} {t r:List UInt8} {k:Nat} (h:Lx.slash2 (b::t)≠true) (hc:Gap c):¬ Lx.slash2 (b::(t.take k++c::r))=true:=by
 unfold Lx.slash2 at h ⊢
 cases k with
 | zero=>rcases hc with rfl|rfl <;> simp [List.isPrefixOf]
 | succ k=>
  cases t with
  | nil=>rcases hc with rfl|rfl <;> simp [List.isPrefixOf]
  | cons d t=>simpa [List.isPrefixOf] using h
theorem jpb {sep:List UInt8} (hsep:SepOk sep):∀ (n:Nat) (l:List UInt8) (p:Nat) (ts:List Lx.Tok),l.length≤n→Lx.lexR l p=.ok ts→
  ∀ q,∃ us,Lx.lexR (ts.flatMap fun t=>t.s++sep) q=.ok us∧us.map zTok=ts.map zTok:=by
 have hend:∀ (p q:Nat),∃ us,Lx.lexR (([⟨3,[],p⟩]:List Lx.Tok).flatMap fun t=>t.s++sep) q=.ok us∧us.map zTok=([⟨3,[],p⟩]:List Lx.Tok).map zTok:=fun p q=>by
  refine ⟨[⟨3,[],(q+sep.length:Nat)⟩],?_,rfl⟩
  have:=hsep.skip [] q
  rw [Lx.lexR_nil] at this
  simpa using this
 intro n
 induction n with
 | zero=>
  intro l p ts hl h q
  obtain rfl:l=[]:=List.length_eq_zero_iff.1 (by omega)
  rw [Lx.lexR_nil] at h
  cases h
  exact hend p q
 | succ n ih=>
  intro l p ts hl h q
  cases l with
  | nil=>
   rw [Lx.lexR_nil] at h
   cases h
   exact hend p q
  | cons b r=>
   have hr:r.length≤n:=by simpa using hl
   rw [Lx.lexR_cons] at h
   split at h
   ·exact ih r _ ts hr h q
   rename_i hbl
   split at h
   ·exact ih (r.drop (Lx.lineN r)) _ ts (by rw [zk];omega) h q
   rename_i hsl
   split at h
   ·cases h
   ·rename_i h0
    cases hx:Lx.lexR (r.drop (Lx.firstN (b::r) - 1)) (p+Lx.firstN (b::r)) with
    | error e=>rw [hx] at h;cases h
    | ok ts'=>
     rw [hx] at h
     cases h
     obtain ⟨c,sp,hc,hg⟩:=hsep.head
     obtain ⟨k,hk⟩:∃ k,Lx.firstN (b::r)=k+1:=⟨Lx.firstN (b::r) - 1,by omega⟩
     obtain ⟨us,h1,h2⟩:=ih (r.drop (Lx.firstN (b::r) - 1)) _ ts' (by rw [zk];omega) hx (q+((b::r).take (Lx.firstN (b::r))).length+sep.length)
     obtain ⟨f1,f2⟩:=jox h0 hg (sp++ts'.flatMap fun t=>t.s++sep)
     refine ⟨⟨Lx.firstK (b::r),(b::r).take (Lx.firstN (b::r)),q⟩::us,?_,by rw [xf,xf,h2];rfl⟩
     rw [List.flatMap_cons]
     have e1:((b::r).take (Lx.firstN (b::r))++sep)++(ts'.flatMap fun t=>t.s++sep)=(b::r).take (Lx.firstN (b::r))++c::(sp++ts'.flatMap fun t=>t.s++sep):=by rw [hc];simp
     have e2:c::(sp++ts'.flatMap fun t=>t.s++sep)=sep++ts'.flatMap fun t=>t.s++sep:=by rw [hc];rfl
     show Lx.lexR (((b::r).take (Lx.firstN (b::r))++sep)++(ts'.flatMap fun t=>t.s++sep)) q=_
     rw [e1]
     rw [← hsep.skip,← e2] at h1
     generalize (sp++ts'.flatMap fun t=>t.s++sep)=R at h1 f1 f2 ⊢
     rw [hk] at h1 f1 f2 ⊢
     rw [xy,xk] at f1 f2 ⊢
     have hlen:((b::r.take k)).length=k+1:=by
      have:=Lx.firstN_le b r
      rw [hk,zh] at this
      rw [zh,xc];omega
     have ht:(List.take (k+1) (b::r)).length=k+1:=by rw [xy];exact hlen
     rw [ht] at h1
     rw [hlen] at f1
     rw [Lx.lexR_cons,za hbl,za (jpa hsl hg),f1,za (by omega),f2,Nat.add_sub_cancel]
     have e3:(r.take k++c::R).drop k=c::R:=by
      have hl2:(r.take k).length=k:=by rw [zh] at hlen;omega
      rw [List.drop_append_of_le_length (by omega),List.drop_of_length_le (by omega)];rfl
     have e4:List.take (k+1) (b::(r.take k++c::R))=b::r.take k:=by
      have hl2:(r.take k).length=k:=by rw [zh] at hlen;omega
      rw [xy,List.take_append_of_le_length (by omega),List.take_of_length_le (by omega)]
     rw [e3,h1,e4]
     rfl
end Pa
end Go.Proofs.Ythfaleaojlnnoaa
end
section
namespace Go.Proofs.Ythfaleaojlnnoaa
namespace Pa
open Go Go.Sx
theorem quq (sep:List UInt8):∀ (n:Nat) (l:List UInt8) (p:Nat) (ts:List Lx.Tok),l.length≤n→Lx.lexR l p=.ok ts→(ts.flatMap fun t=>t.s++sep).length≤l.length+sep.length * (l.length+1):=by
 intro n
 induction n with
 | zero=>
  intro l p ts hl h
  obtain rfl:l=[]:=List.length_eq_zero_iff.1 (by omega)
  rw [Lx.lexR_nil] at h
  cases h
  simp
 | succ n ih=>
  intro l p ts hl h
  cases l with
  | nil=>
   rw [Lx.lexR_nil] at h
   cases h
   simp
  | cons b r=>
   have hr:r.length≤n:=by simpa using hl
   have hm:∀ k,k≤r.length+2→sep.length * k≤sep.length * (r.length+2):=fun k hk=>Nat.mul_le_mul_left _ hk
   rw [Lx.lexR_cons] at h
   rw [zh]
   split at h
   ·have h1:=ih r _ ts hr h
    have h2:=hm (r.length+1) (by omega)
    show _≤r.length+1+sep.length * (r.length+2)
    omega
   split at h
   ·have h1:=ih (r.drop (Lx.lineN r)) _ ts (by rw [zk];omega) h
    have h2:=hm ((r.drop (Lx.lineN r)).length+1) (by rw [zk];omega)
    rw [zk] at h1 h2
    show _≤r.length+1+sep.length * (r.length+2)
    omega
   split at h
   ·cases h
   ·rename_i h0
    cases hx:Lx.lexR (r.drop (Lx.firstN (b::r) - 1)) (p+Lx.firstN (b::r)) with
    | error e=>rw [hx] at h;cases h
    | ok ts'=>
     rw [hx] at h
     cases h
     have h1:=ih (r.drop (Lx.firstN (b::r) - 1)) _ ts' (by rw [zk];omega) hx
     have hle:=Lx.firstN_le b r
     have h2:=hm ((r.drop (Lx.firstN (b::r) - 1)).length+2) (by rw [zk];omega)
     have h3:sep.length * ((r.drop (Lx.firstN (b::r) - 1)).length+2)=sep.length * ((r.drop (Lx.firstN (b::r) - 1)).length+1)+sep.length:=by rw [← Nat.mul_succ]
     rw [List.flatMap_cons,zr,zr]
     show ((b::r).take (Lx.firstN (b::r))).length+sep.length + _≤r.length+1+sep.length * (r.length+2)
     rw [xc]
     rw [zh] at hle ⊢
     rw [h3] at h2
     rw [zk] at h1 h2
     omega
theorem jcd {sep:List UInt8} (hsep:SepOk sep) (h4:sep.length≤4) {s:List UInt8} (hl:s.length≤700) (hs:(Lx.lexAll s).2.1=0) :
  (jg s).2.1=(jg ((Lx.lexAll s).1.flatMap fun t=>t.s++sep)).2.1∧(jg s).1.map zN=(jg ((Lx.lexAll s).1.flatMap fun t=>t.s++sep)).1.map zN:=by
 obtain ⟨ts,hts⟩:∃ ts,Lx.lexR s 0=.ok ts:=by
  unfold Lx.lexAll at hs
  rw [za (by omega)] at hs
  split at hs
  ·exact ⟨_,by assumption⟩
  ·simp at hs
 have e:(Lx.lexAll s).1=ts:=by unfold Lx.lexAll;rw [za (by omega),hts]
 obtain ⟨us,h1,h2⟩:=jpb hsep _ s 0 ts (zj _) hts 0
 have h3:=quq sep _ s 0 ts (zj _) hts
 have h5:sep.length * (s.length+1)≤4 * 701:=Nat.mul_le_mul h4 (by omega)
 have hu:Lx.lexAll (ts.flatMap fun t=>t.s++sep)=(us,(0,0)):=by unfold Lx.lexAll;rw [za (by omega),h1]
 rw [e]
 exact jov hs (by rw [hu]) (by rw [hu,e];exact h2.symm)
end Pa
end Go.Proofs.Ythfaleaojlnnoaa
end
