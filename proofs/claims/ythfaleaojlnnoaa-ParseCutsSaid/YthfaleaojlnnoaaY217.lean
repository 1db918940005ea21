/- Some texts of the library, one behind the other. -/
import Derived.Test.YthfaleaojlnnoaaY216
import Derived.Test.YthfaleaojlnnoaaY26
import Derived.Test.YthfaleaojlnnoaaY2LexPlain
import Derived.Test.YthfaleaojlnnoaaProg
import Derived.Test.YthfaleaojlnnoaaY22
set_option linter.unusedSimpArgs false
set_option linter.unusedVariables false
section
namespace Go.St
open List renaming getD_eq_getElem?_getD → zd
open Go Go.Sx
theorem jaf {α:Type} (p:α→Bool):∀ l:List α,l.dropWhile p=l.drop (l.takeWhile p).length
 | []=>rfl
 | x::r=>by
  rw [List.dropWhile_cons,List.takeWhile_cons]
  cases p x with
  | true=>exact jaf p r
  | false=>rfl
theorem jag {α:Type} (p:α→Bool) (d:α):∀ l:List α,(l.takeWhile p).length≤l.length∧(∀ j,j<(l.takeWhile p).length→p (l.getD j d)=true)∧((l.takeWhile p).length=l.length∨p (l.getD (l.takeWhile p).length d)=false)
 | []=>⟨zi _,fun j hj=>absurd hj (xb _),.inl rfl⟩
 | x::r=>by
  obtain ⟨h1,h2,h3⟩:=jag p d r
  rw [List.takeWhile_cons]
  cases hp:p x with
  | true=>
   rw [zb rfl,zo,zo]
   refine ⟨by omega,fun j hj=>?_,?_⟩
   ·cases j with
    | zero=>exact hp
    | succ j=>exact h2 j (by omega)
   ·rcases h3 with h3|h3
    ·exact .inl (by omega)
    ·exact .inr h3
  | false=>
   rw [za (by simp)]
   exact ⟨xi _,fun j hj=>absurd hj (xb _),.inr hp⟩
theorem jkz (l:List Nd) (n:Nd) (a b:Int):allB l n (qfp l n) a b=((qap l n.kids).dropWhile (· == 2)).all fun k=>inK k a b:=by
 have hl:(qap l n.kids).length=n.kids.length:=by unfold qap;rw [zs]
 obtain ⟨h1,h2,h3⟩:=jag (· == 2) (0:Int) (qap l n.kids)
 have hv:qfp l n=((qap l n.kids).takeWhile (· == 2)).length:=by
  refine qze l n _ (by omega) (fun j hj=>?_) ?_
  ·have:=h2 j hj
   rw [qli l n (by omega)]
   exact beq_iff_eq.1 this
  ·rcases h3 with h3|h3
   ·exact .inl (by omega)
   ·by_cases h4:((qap l n.kids).takeWhile (· == 2)).length<n.kids.length
    ·rw [qli l n h4]
     exact .inr (beq_eq_false_iff_ne.1 h3)
    ·exact .inl (by omega)
 rw [hv,jaf]
 generalize ((qap l n.kids).takeWhile (· == 2)).length=v at h1
 rw [← qqh (fun k=>inK k a b) 0,zm,hl]
 unfold allB
 rw [xe,zt,zt]
 constructor
 ·intro h i hi
  rw [zaw] at hi
  have:=h (v+i) (List.mem_range.2 (by omega))
  rw [zv (by omega),xr,qli l n (by omega)] at this
  rw [zd,xc,← zd]
  exact this
 ·intro h i hi
  rw [zaw] at hi
  by_cases hiv:i<v
  ·rw [zao hiv];rfl
  ·have:=h (i - v) (List.mem_range.2 (by omega))
   rw [zd,xc,← zd,show v+(i - v)=i by omega] at this
   rw [qli l n hi,this,Bool.or_true]
def qup (l:List Nd) (n:Nd) (k:Int):Bool:=
 if k=0 then qo n 0 && ja n 0 0 && allB l n 0 1 5
 else if k=1 then qo n 1 && ja n 4 999999 && decide (n.nums.getD 2 0≤1) && decide (n.nums.getD 3 0≤1) && (n.kids.length:Int) == 0
 else if k=2 then qo n 1 && (n.nums.length:Int) == 2 && inK (n.nums.getD 0 0) 0 999999 && inK (n.nums.getD 1 0) (-999999) 999999 && (n.kids.length:Int) == 0
 else if k=3 then qo n 1 && ja n 1 999999 && allB l n (qfp l n) 6 15
 else if k=4∨k=20∨k=21 then qo n 0 && ja n 0 0 && qba l n 1 0 0
 else if k=5∨k=14∨k=15 then qo n 0 && ja n 0 0 && (n.kids.length:Int) == 0
 else if k=6∨k=7 then qo n 1 && ja n 0 0 && qba l n 1 0 0
 else if k=8 then qo n 2 && ja n 1 1 && (n.kids.length:Int) == 0
 else if k=9 then qo n 0 && ja n 1 1 && qba l n 1 0 0
 else if k=10 then qo n 0 && ja n 1 1 && qba l n 0 1 800
 else if k=11 then qo n 0 && ja n 0 0 && qba l n 1 1 2
 else if k=12 then qo n 0 && ja n 0 0 && qba l n 1 1 1
 else if k=13 then qo n 0 && ja n 0 0 && qba l n 0 1 1
 else if k=16 then qo n 0 && ja n 0 0 && allB l n 0 6 15
 else if k=17 then qo n 0 && ja n 1 999999 && (n.kids.length:Int) == 0
 else if k=18∨k=19 then qo n 1 && ja n 0 0 && (n.kids.length:Int) == 0
 else if k=22 then qo n 0 && ja n 1 8 && qba l n 2 0 0
 else false
theorem jla (l:List Nd) (n:Nd) (h:n.kids.length≤800):jac n (qap l n.kids)=qbo l n:=by
 have W0:qah n.nums []=ja n 0 0:=qqj _ 0 [] (fun b hb=>absurd hb List.not_mem_nil)
 have W1:qah n.nums [(0,999999)]=ja n 1 999999:=qqj _ 999999 [(0,999999)] (fun b hb=>List.mem_singleton.1 hb)
 have Wf:qah n.nums [(0,1)]=ja n 1 1:=qqj _ 1 [(0,1)] (fun b hb=>List.mem_singleton.1 hb)
 have W8:qah n.nums [(0,8)]=ja n 1 8:=qqj _ 8 [(0,8)] (fun b hb=>List.mem_singleton.1 hb)
 have Wc:=jkx n.nums
 have Wv:=jky n.nums
 have hl:(qap l n.kids).length=n.kids.length:=by unfold qap;rw [zs]
 have L0:decide ((qap l n.kids).length=0)=((n.kids.length:Int) == 0):=by
  rw [xe,zr,xq];omega
 have A1:allK (qap l n.kids) 1=allB l n 0 1 5:=by
  rw [jad];unfold allK;rw [show (fun k=>qcb k == 1)=(fun k:Int=>inK k 1 5) from funext sort1]
 have A2:allK (qap l n.kids) 2=allB l n 0 6 15:=by
  rw [jad];unfold allK;rw [show (fun k=>qcb k == 2)=(fun k:Int=>inK k 6 15) from funext jae]
 have AV:allK ((qap l n.kids).dropWhile (· == 2)) 2=allB l n (qfp l n) 6 15:=by
  rw [jkz];unfold allK;rw [show (fun k=>qcb k == 2)=(fun k:Int=>inK k 6 15) from funext jae]
 have Ee:areK (qap l n.kids) [3]=qba l n 1 0 0:=by rw [qlj,are_e]
 have Eb:areK (qap l n.kids) [4]=qba l n 0 1 1:=by rw [qlj,are_b]
 have Eeb:areK (qap l n.kids) [3,4]=qba l n 1 1 1:=by rw [qlj,jkt]
 have Eee:areK (qap l n.kids) [3,3]=qba l n 2 0 0:=by rw [qlj,jku]
 have Eif:(areK (qap l n.kids) [3,4] || areK (qap l n.kids) [3,4,4])=qba l n 1 1 2:=by rw [qlj,jkv]
 have Ech:(decide (0<(qap l n.kids).length) && allK (qap l n.kids) 4)=qba l n 0 1 800:=by rw [qlj,jkw _ (by omega)]
 show (qo n (cntW n.kind) && qah n.nums (bndF n.kind) && qqg n.kind (qap l n.kids))=qup l n n.kind
 generalize qap l n.kids=ks at L0 A1 A2 AV Ee Eb Eeb Eee Eif Ech
 generalize n.kind=k
 clear hl
 by_cases h0:k=0
 ·subst h0;show (qo n 0 && qah n.nums [] && allK ks 1)=_;rw [W0,A1];rfl
 by_cases h1:k=1
 ·subst h1;show (qo n 1 && qah n.nums [(0,999999),(0,999999),(0,1),(0,1)] && decide (ks.length=0))=(qo n 1 && ja n 4 999999 && decide (n.nums.getD 2 0≤1) && decide (n.nums.getD 3 0≤1) && (n.kids.length:Int) == 0)
  rw [Wc,L0,show (n.nums.all (fun x=>decide (0≤x) && decide (x≤999999)) && (n.nums.length:Int) == 4)=ja n 4 999999 from rfl]
  simp only [Bool.and_assoc]
 by_cases h2:k=2
 ·subst h2;show (qo n 1 && qah n.nums [(0,999999),(-999999,999999)] && decide (ks.length=0))=(qo n 1 && (n.nums.length:Int) == 2 && inK (n.nums.getD 0 0) 0 999999 && inK (n.nums.getD 1 0) (-999999) 999999 && (n.kids.length:Int) == 0)
  rw [Wv,L0]
  simp only [Bool.and_assoc]
 by_cases h3:k=3
 ·subst h3;show (qo n 1 && qah n.nums [(0,999999)] && allK (ks.dropWhile (· == 2)) 2)=_;rw [W1,AV];rfl
 by_cases h4:k=4
 ·subst h4;show (qo n 0 && qah n.nums [] && areK ks [3])=_;rw [W0,Ee];rfl
 by_cases h5:k=5
 ·subst h5;show (qo n 0 && qah n.nums [] && decide (ks.length=0))=_;rw [W0,L0];rfl
 by_cases h6:k=6
 ·subst h6;show (qo n 1 && qah n.nums [] && areK ks [3])=_;rw [W0,Ee];rfl
 by_cases h7:k=7
 ·subst h7;show (qo n 1 && qah n.nums [] && areK ks [3])=_;rw [W0,Ee];rfl
 by_cases h8:k=8
 ·subst h8;show (qo n 2 && qah n.nums [(0,1)] && decide (ks.length=0))=_;rw [Wf,L0];rfl
 by_cases h9:k=9
 ·subst h9;show (qo n 0 && qah n.nums [(0,1)] && areK ks [3])=_;rw [Wf,Ee];rfl
 by_cases h10:k=10
 ·subst h10;show (qo n 0 && qah n.nums [(0,1)] && (decide (0<ks.length) && allK ks 4))=_;rw [Wf,Ech];rfl
 by_cases h11:k=11
 ·subst h11;show (qo n 0 && qah n.nums [] && (areK ks [3,4] || areK ks [3,4,4]))=_;rw [W0,Eif];rfl
 by_cases h12:k=12
 ·subst h12;show (qo n 0 && qah n.nums [] && areK ks [3,4])=_;rw [W0,Eeb];rfl
 by_cases h13:k=13
 ·subst h13;show (qo n 0 && qah n.nums [] && areK ks [4])=_;rw [W0,Eb];rfl
 by_cases h14:k=14
 ·subst h14;show (qo n 0 && qah n.nums [] && decide (ks.length=0))=_;rw [W0,L0];rfl
 by_cases h15:k=15
 ·subst h15;show (qo n 0 && qah n.nums [] && decide (ks.length=0))=_;rw [W0,L0];rfl
 by_cases h16:k=16
 ·subst h16;show (qo n 0 && qah n.nums [] && allK ks 2)=_;rw [W0,A2];rfl
 by_cases h17:k=17
 ·subst h17;show (qo n 0 && qah n.nums [(0,999999)] && decide (ks.length=0))=_;rw [W1,L0];rfl
 by_cases h18:k=18
 ·subst h18;show (qo n 1 && qah n.nums [] && decide (ks.length=0))=_;rw [W0,L0];rfl
 by_cases h19:k=19
 ·subst h19;show (qo n 1 && qah n.nums [] && decide (ks.length=0))=_;rw [W0,L0];rfl
 by_cases h20:k=20
 ·subst h20;show (qo n 0 && qah n.nums [] && areK ks [3])=_;rw [W0,Ee];rfl
 by_cases h21:k=21
 ·subst h21;show (qo n 0 && qah n.nums [] && areK ks [3])=_;rw [W0,Ee];rfl
 by_cases h22:k=22
 ·subst h22;show (qo n 0 && qah n.nums [(0,8)] && areK ks [3,3])=_;rw [W8,Eee];rfl
 have k1:qqg k ks=false:=by
  unfold qqg
  repeat rw [za (by omega)]
 have k2:qup l n k=false:=by
  unfold qup
  repeat rw [za (by omega)]
 rw [k1,k2,Bool.and_false]
/-! Trees. -/
end Go.St
end
section
namespace Go.Proofs.Ythfaleaojlnnoaa
namespace Pa
open Go Go.Sx
theorem jle:∀ b:UInt8,Lx.digB b=true→48≤b.toNat∧b.toNat≤57:=by
 have h:∀ b:Fin 256,Lx.digB (UInt8.ofNat b)=true→48≤b.val∧b.val≤57:=by decide +kernel
 intro b hb
 have:=h ⟨b.toNat,b.toNat_lt⟩
 simp only [UInt8.ofNat_toNat] at this
 exact this hb
theorem jak (p:UInt8→Bool):∀ l:List UInt8,∀ b∈l.take (Lx.spanN p l),p b=true
 | [],b,h=>by simp at h
 | x::r,b,h=>by
  rw [Lx.spanN] at h
  split at h
  ·rename_i hx
   rw [Nat.add_comm,List.take_succ_cons] at h
   rcases List.mem_cons.1 h with rfl|h
   ·exact hx
   ·exact jak p r b h
  ·simp at h
theorem jlf (l:List UInt8):Lx.firstK l≠3:=by
 unfold Lx.firstK
 split
 ·decide
 ·split
  ·decide
  ·split <;> decide
theorem jlg {l:List UInt8} (h:Lx.firstK l=1) (h0:Lx.firstN l≠0):(l.take (Lx.firstN l)).length≤6∧∀ b∈l.take (Lx.firstN l),48≤b.toNat∧b.toNat≤57:=by
 cases l with
 | nil=>simp [Lx.firstK] at h
 | cons x r=>
  unfold Lx.firstK at h
  unfold Lx.firstN at h0 ⊢
  simp only at h h0 ⊢
  split at h
  ·simp at h
  ·rename_i h2
   rw [za h2] at h0 ⊢
   split at h
   ·rename_i h3
    rw [zb h3] at h0 ⊢
    split at h0
    ·exact absurd rfl h0
    ·rename_i h6
     rw [za h6]
     refine ⟨?_,fun b hb=>jle b (jak _ _ b hb)⟩
     rw [xd];omega
   ·simp at h
theorem jlh:∀ (n:Nat) (l:List UInt8) (p:Nat) (ts:List Lx.Tok),l.length≤n→Lx.lexR l p=.ok ts→
  ∃ pre e,ts=pre++[⟨3,[],e⟩]∧(∀ t∈pre,t.kind≠3∧(t.kind=1→t.s.length≤6∧∀ b∈t.s,48≤b.toNat∧b.toNat≤57))∧pre.length≤l.length:=by
 intro n
 induction n with
 | zero=>
  intro l p ts hl h
  obtain rfl:l=[]:=List.length_eq_zero_iff.1 (by omega)
  rw [Lx.lexR_nil] at h
  cases h
  exact ⟨[],_,rfl,fun t ht=>by simp at ht,zi _⟩
 | succ n ih=>
  intro l p ts hl h
  cases l with
  | nil=>
   rw [Lx.lexR_nil] at h
   cases h
   exact ⟨[],_,rfl,fun t ht=>by simp at ht,zi _⟩
  | cons b r=>
   have hr:r.length≤n:=by simpa using hl
   rw [Lx.lexR_cons] at h
   split at h
   ·obtain ⟨pre,e,h1,h2,h3⟩:=ih r _ ts hr h
    exact ⟨pre,e,h1,h2,by simp;omega⟩
   split at h
   ·obtain ⟨pre,e,h1,h2,h3⟩:=ih (r.drop (Lx.lineN r)) _ ts (by rw [zm];omega) h
    exact ⟨pre,e,h1,h2,by rw [zm] at h3;simp;omega⟩
   split at h
   ·cases h
   ·rename_i h0
    cases hx:Lx.lexR (r.drop (Lx.firstN (b::r) - 1)) (p+Lx.firstN (b::r)) with
    | error e=>rw [hx] at h;cases h
    | ok ts'=>
     rw [hx] at h
     cases h
     obtain ⟨pre,e,h1,h2,h3⟩:=ih (r.drop (Lx.firstN (b::r) - 1)) _ ts' (by rw [zm];omega) hx
     refine ⟨⟨Lx.firstK (b::r),(b::r).take (Lx.firstN (b::r)),p⟩::pre,e,by rw [h1];rfl,fun t ht=>?_,by rw [zm] at h3;simp;omega⟩
     rcases List.mem_cons.1 ht with rfl|ht
     ·exact ⟨jlf (b::r),fun hk=>jlg (l:=b::r) hk h0⟩
     ·exact h2 t ht
theorem qnt {s:List UInt8} (h:(Lx.lexAll s).2.1=0):ToksOk (Lx.lexAll s).1∧0<(Lx.lexAll s).1.length:=by
 unfold Lx.lexAll at h ⊢
 split at h
 ·simp at h
 rename_i hs
 rw [za hs]
 split at h
 ·rename_i ts hts
  obtain ⟨pre,e,h1,h2,h3⟩:=jlh _ s 0 ts (zi _) hts
  simp only
  subst h1
  refine ⟨⟨by simp;omega,fun i hi=>?_,fun t ht hk=>?_⟩,by simp⟩
  ·rw [List.getD_eq_getElem?_getD]
   by_cases hip:i<pre.length
   ·rw [zq hip,zf hip]
    have:=(h2 _ (xf hip)).1
    simp only [zat,xa,List.length_singleton]
    constructor
    ·intro h;exact absurd h this
    ·intro h;omega
   ·have:i=pre.length:=by simp at hi;omega
    subst this
    rw [zl (zi _),xw]
    simp
  ·rcases List.mem_append.1 ht with ht|ht
   ·exact (h2 t ht).2 hk
   ·rw [xl] at ht
    subst ht
    simp at hk
 ·simp at h
end Pa
end Go.Proofs.Ythfaleaojlnnoaa
end
section
namespace Go.Proofs.Ythfaleaojlnnoaa
namespace Pa
open Go Go.Sx
abbrev TokK (ts:List Lx.Tok):Prop:=∀ t∈ts,(t.kind=3∧t.s=[])∨(t.s≠[]∧t.kind=Lx.firstK t.s)
theorem jli:∀ (n:Nat) (l:List UInt8) (p:Nat) (ts:List Lx.Tok),l.length≤n→Lx.lexR l p=.ok ts→TokK ts:=by
 intro n
 induction n with
 | zero=>
  intro l p ts hl h
  obtain rfl:l=[]:=List.length_eq_zero_iff.1 (by omega)
  rw [Lx.lexR_nil] at h
  cases h
  intro t ht
  rw [List.mem_singleton.1 ht]
  exact .inl ⟨rfl,rfl⟩
 | succ n ih=>
  intro l p ts hl h
  cases l with
  | nil=>
   rw [Lx.lexR_nil] at h
   cases h
   intro t ht
   rw [List.mem_singleton.1 ht]
   exact .inl ⟨rfl,rfl⟩
  | cons b r=>
   have hr:r.length≤n:=by simpa using hl
   rw [Lx.lexR_cons] at h
   split at h
   ·exact ih r _ ts hr h
   split at h
   ·exact ih (r.drop (Lx.lineN r)) _ ts (by rw [zm];omega) h
   split at h
   ·cases h
   ·rename_i h0
    cases hx:Lx.lexR (r.drop (Lx.firstN (b::r) - 1)) (p+Lx.firstN (b::r)) with
    | error e=>rw [hx] at h;cases h
    | ok ts'=>
     rw [hx] at h
     cases h
     have h1:=ih (r.drop (Lx.firstN (b::r) - 1)) _ ts' (by rw [zm];omega) hx
     intro t ht
     rcases List.mem_cons.1 ht with rfl|ht
     ·obtain ⟨k,hk⟩:∃ k,Lx.firstN (b::r)=k+1:=⟨Lx.firstN (b::r) - 1,by omega⟩
      refine .inr ⟨?_,?_⟩
      ·show (b::r).take (Lx.firstN (b::r))≠[]
       rw [hk];simp
      ·show Lx.firstK (b::r)=Lx.firstK ((b::r).take (Lx.firstN (b::r)))
       rw [hk,List.take_succ_cons];rfl
     ·exact h1 t ht
theorem jlj {s:List UInt8} (h:(Lx.lexAll s).2.1=0):TokK (Lx.lexAll s).1:=by
 unfold Lx.lexAll at h ⊢
 split at h
 ·simp at h
 rename_i hs
 rw [za hs]
 split at h
 ·rename_i ts hts
  exact jli _ s 0 ts (zi _) hts
 ·simp at h
def kwB (s:List UInt8):Bool:=!s.isEmpty && (Lx.firstK s == 2 || Lx.firstK s == 0 && Go.St.keyF s)
theorem qdi {ts:List Lx.Tok} (hk:TokK ts) {p:Ps} (h:AtOk ts p) (he:p.err=0) {s:List UInt8} (hs:kwB s=true):sees ts p s=((tk ts p).s == s):=by
 unfold kwB at hs
 simp only [ze,xj,xx,xq] at hs
 unfold sees qps
 rw [he]
 by_cases e:(tk ts p).s=s
 ·rcases hk _ (qhe h) with ⟨_,h2⟩|⟨_,h2⟩
  ·rw [e] at h2;rw [h2] at hs;simp at hs
  ·rw [e] at h2
   rw [h2,beq_iff_eq.2 e]
   rcases hs.2 with h3|h3
   ·rw [h3];rfl
   ·rw [h3.1,h3.2];rfl
 ·rw [beq_eq_false_iff_ne.2 e];rfl
mutual
def Tr.pvA:Tr→AV
 | .mk k w n a l=>.rptr [iv k,strs w,ints n,.nils,iv a,.slc 1 l.length fun i=>[(Tr.pvL l).getD i .nilp]]
def Tr.pvL:List Tr→List AV
 | []=>[]
 | t::r=>t.pvA::Tr.pvL r
end
def qnu (l:List Tr):AV:=.slc 1 l.length fun i=>[(Tr.pvL l).getD i .nilp]
def Tr.cellsB (t:Tr):List AV:=[iv t.kind,strs t.words,ints t.nums,.nils,iv t.at_,qnu t.l]
def Tr.pv (t:Tr):AV:=.rptr t.cellsB
theorem Tr.pvA_eq (t:Tr):t.pvA=t.pv:=by cases t;rfl
theorem Tr.pvL_get:∀ (l:List Tr) (i:Nat),i<l.length→(Tr.pvL l).getD i .nilp=(l.getD i Tr.none).pv
 | [],i,h=>absurd h (xb i)
 | t::r,0,_=>by rw [Tr.pvL];exact t.pvA_eq
 | t::r,i+1,h=>by
  have:=Tr.pvL_get r i (by simpa using h)
  rw [Tr.pvL]
  simpa using this
def opF (n:Int) (s:List UInt8):Int:=
 if n=0 then (if s=sOr2 then 0 else -1) else if n=1 then (if s=qif then 1 else -1) else if n=2 then (if s=sEq2 then 2 else -1) else if n=3 then (if s=sLt then 3 else -1)
 else if n=4 then (if s=qnf then 4 else if s=qal then 5 else -1) else if n=5 then (if s=qbi then 6 else if s=qng then 7 else if s=sPct then 8 else -1) else -1
def qdc (ts:List Lx.Tok) (part:Ps→Tr × Ps) (n:Int):Ps→Tr × Ps:=
 if n=0 then qbj ts part else if n=1 then andF ts part else if n=2 then qdm ts part else if n=3 then qcs ts part else if n=4 then sumF ts part else if n=5 then qcu ts part else part
end Pa
end Go.Proofs.Ythfaleaojlnnoaa
end
section
namespace Go.Proofs.Ythfaleaojlnnoaa
open Go.Sx Go.RowKit
set_option maxRecDepth 100000
theorem jlk (l:List UInt8) (c:Int):Con Try.prog 97 [.str l,.int .u8 c] (.int .i64 (Lib.indexByte l c.toNat.toUInt8)):=
 jfm Try.func97 (by kernel_rfl) (by kernel_rfl) (by kernel_rfl) (by kernel_rfl) l c
theorem jll (l:List UInt8) (c:Int):Con Try.prog 78 [.str l,.int .u8 c] (.int .i64 (Lib.indexByte l c.toNat.toUInt8)):=by
 refine zK {} 100 Try.func78 (fun c0 rdb=>?_)
 repeat' ((conv=>whnf);first|refine Ob.auto ?_|(apply zB <;> intro hb <;> (try simp at hb) <;> try (exfalso;omega))|refine Ob.intro ?_ ?_)
 ((conv=>whnf);refine qbt (fun _=>rfl) 100 (jlk l c) (by rfl) leA (by kernel_rfl) ?_)
 repeat' ((conv=>whnf);first|refine Ob.auto ?_|(apply zB <;> intro hb <;> (try simp at hb) <;> try (exfalso;omega))|refine Ob.intro ?_ ?_)
 exact Le.refl _
theorem jal (l:List UInt8) (c:Int):Con Try.prog 55 [.str l,.int .u8 c] (.int .i64 (Lib.indexByte l c.toNat.toUInt8)):=by
 refine zK {} 100 Try.func55 (fun c0 rdb=>?_)
 repeat' ((conv=>whnf);first|refine Ob.auto ?_|(apply zB <;> intro hb <;> (try simp at hb) <;> try (exfalso;omega))|refine Ob.intro ?_ ?_)
 ((conv=>whnf);refine qbt (fun _=>rfl) 100 (jll l c) (by rfl) leA (by kernel_rfl) ?_)
 repeat' ((conv=>whnf);first|refine Ob.auto ?_|(apply zB <;> intro hb <;> (try simp at hb) <;> try (exfalso;omega))|refine Ob.intro ?_ ?_)
 exact Le.refl _
theorem qqk (c:Int):Con Try.prog 56 [.int .u8 c] (.int .i64 (Lx.cls c)):=by
 refine zK {} 300 Try.func56 (fun c0 rdb=>?_)
 repeat' ((conv=>whnf);first|refine Ob.auto ?_|(apply zB <;> intro hb <;> (try simp at hb) <;> try (exfalso;omega))|refine Ob.intro ?_ ?_)
 rotate_right 1
 ·((conv=>whnf);refine qbt (fun _=>rfl) 100 (jal Lx.signs c) (by rfl) leA (by kernel_rfl) ?_)
  repeat' ((conv=>whnf);first|refine Ob.auto ?_|(apply zB <;> intro hb <;> (try simp at hb) <;> try (exfalso;omega))|refine Ob.intro ?_ ?_)
  ·refine Le.of_eq ?_
   simp only [Lx.cls]
   grind
  ·refine Le.of_eq ?_
   simp only [Lx.cls]
   grind
 all_goals
  refine Le.of_eq ?_
  simp only [Lx.cls]
  grind
end Go.Proofs.Ythfaleaojlnnoaa
end
