/- Some texts of the library, one behind the other. -/
import Derived.Test.YthfaleaojlnnoaaY3RgP
import Derived.Test.YthfaleaojlnnoaaY36
import Derived.Test.YthfaleaojlnnoaaY32
set_option linter.unusedSimpArgs false
set_option linter.unusedVariables false
section
namespace Go.St
open List renaming getD_eq_getElem?_getD → zd
open Go Go.Sx
theorem qzb {α:Type} (p:α→Bool):∀ l:List α,l.dropWhile p=l.drop (l.takeWhile p).length
 | []=>rfl
 | x::r=>by
  rw [List.dropWhile_cons,List.takeWhile_cons]
  cases p x with
  | true=>exact qzb p r
  | false=>rfl
theorem qzc {α:Type} (p:α→Bool) (d:α):∀ l:List α,(l.takeWhile p).length≤l.length∧(∀ j,j<(l.takeWhile p).length→p (l.getD j d)=true)∧((l.takeWhile p).length=l.length∨p (l.getD (l.takeWhile p).length d)=false)
 | []=>⟨zj _,fun j hj=>absurd hj (xw _),.inl rfl⟩
 | x::r=>by
  obtain ⟨h1,h2,h3⟩:=qzc p d r
  rw [List.takeWhile_cons]
  cases hp:p x with
  | true=>
   rw [zb rfl,zh,zh]
   refine ⟨by omega,fun j hj=>?_,?_⟩
   ·cases j with
    | zero=>exact hp
    | succ j=>exact h2 j (by omega)
   ·rcases h3 with h3|h3
    ·exact .inl (by omega)
    ·exact .inr h3
  | false=>
   rw [za (by simp)]
   exact ⟨xh _,fun j hj=>absurd hj (xw _),.inr hp⟩
theorem jjz (l:List Nd) (n:Nd) (a b:Int):allB l n (qer l n) a b=((qak l n.kids).dropWhile (· == 2)).all fun k=>inK k a b:=by
 have hl:(qak l n.kids).length=n.kids.length:=by unfold qak;rw [zm]
 obtain ⟨h1,h2,h3⟩:=qzc (· == 2) (0:Int) (qak l n.kids)
 have hv:qer l n=((qak l n.kids).takeWhile (· == 2)).length:=by
  refine qyi l n _ (by omega) (fun j hj=>?_) ?_
  ·have:=h2 j hj
   rw [qkp l n (by omega)]
   exact beq_iff_eq.1 this
  ·rcases h3 with h3|h3
   ·exact .inl (by omega)
   ·by_cases h4:((qak l n.kids).takeWhile (· == 2)).length<n.kids.length
    ·rw [qkp l n h4]
     exact .inr (beq_eq_false_iff_ne.1 h3)
    ·exact .inl (by omega)
 rw [hv,qzb]
 generalize ((qak l n.kids).takeWhile (· == 2)).length=v at h1
 rw [← qpl (fun k=>inK k a b) 0,zk,hl]
 unfold allB
 rw [xe,zu,zu]
 constructor
 ·intro h i hi
  rw [zas] at hi
  have:=h (v+i) (List.mem_range.2 (by omega))
  rw [zv (by omega),xt,qkp l n (by omega)] at this
  rw [zd,xb,← zd]
  exact this
 ·intro h i hi
  rw [zas] at hi
  by_cases hiv:i<v
  ·rw [zan hiv];rfl
  ·have:=h (i - v) (List.mem_range.2 (by omega))
   rw [zd,xb,← zd,show v+(i - v)=i by omega] at this
   rw [qkp l n hi,this,Bool.or_true]
def qtq (l:List Nd) (n:Nd) (k:Int):Bool:=
 if k=0 then qj n 0 && qx n 0 0 && allB l n 0 1 5
 else if k=1 then qj n 1 && qx n 4 999999 && decide (n.nums.getD 2 0≤1) && decide (n.nums.getD 3 0≤1) && (n.kids.length:Int) == 0
 else if k=2 then qj n 1 && (n.nums.length:Int) == 2 && inK (n.nums.getD 0 0) 0 999999 && inK (n.nums.getD 1 0) (-999999) 999999 && (n.kids.length:Int) == 0
 else if k=3 then qj n 1 && qx n 1 999999 && allB l n (qer l n) 6 15
 else if k=4∨k=20∨k=21 then qj n 0 && qx n 0 0 && qar l n 1 0 0
 else if k=5∨k=14∨k=15 then qj n 0 && qx n 0 0 && (n.kids.length:Int) == 0
 else if k=6∨k=7 then qj n 1 && qx n 0 0 && qar l n 1 0 0
 else if k=8 then qj n 2 && qx n 1 1 && (n.kids.length:Int) == 0
 else if k=9 then qj n 0 && qx n 1 1 && qar l n 1 0 0
 else if k=10 then qj n 0 && qx n 1 1 && qar l n 0 1 800
 else if k=11 then qj n 0 && qx n 0 0 && qar l n 1 1 2
 else if k=12 then qj n 0 && qx n 0 0 && qar l n 1 1 1
 else if k=13 then qj n 0 && qx n 0 0 && qar l n 0 1 1
 else if k=16 then qj n 0 && qx n 0 0 && allB l n 0 6 15
 else if k=17 then qj n 0 && qx n 1 999999 && (n.kids.length:Int) == 0
 else if k=18∨k=19 then qj n 1 && qx n 0 0 && (n.kids.length:Int) == 0
 else if k=22 then qj n 0 && qx n 1 8 && qar l n 2 0 0
 else false
theorem jka (l:List Nd) (n:Nd) (h:n.kids.length≤800):qyy n (qak l n.kids)=qaz l n:=by
 have W0:qaa n.nums []=qx n 0 0:=qpn _ 0 [] (fun b hb=>absurd hb List.not_mem_nil)
 have W1:qaa n.nums [(0,999999)]=qx n 1 999999:=qpn _ 999999 [(0,999999)] (fun b hb=>List.mem_singleton.1 hb)
 have Wf:qaa n.nums [(0,1)]=qx n 1 1:=qpn _ 1 [(0,1)] (fun b hb=>List.mem_singleton.1 hb)
 have W8:qaa n.nums [(0,8)]=qx n 1 8:=qpn _ 8 [(0,8)] (fun b hb=>List.mem_singleton.1 hb)
 have Wc:=jjx n.nums
 have Wv:=jjy n.nums
 have hl:(qak l n.kids).length=n.kids.length:=by unfold qak;rw [zm]
 have L0:decide ((qak l n.kids).length=0)=((n.kids.length:Int) == 0):=by
  rw [xe,zt,xu];omega
 have A1:allK (qak l n.kids) 1=allB l n 0 1 5:=by
  rw [qyz];unfold allK;rw [show (fun k=>qbi k == 1)=(fun k:Int=>inK k 1 5) from funext sort1]
 have A2:allK (qak l n.kids) 2=allB l n 0 6 15:=by
  rw [qyz];unfold allK;rw [show (fun k=>qbi k == 2)=(fun k:Int=>inK k 6 15) from funext qza]
 have AV:allK ((qak l n.kids).dropWhile (· == 2)) 2=allB l n (qer l n) 6 15:=by
  rw [jjz];unfold allK;rw [show (fun k=>qbi k == 2)=(fun k:Int=>inK k 6 15) from funext qza]
 have Ee:areK (qak l n.kids) [3]=qar l n 1 0 0:=by rw [qkq,are_e]
 have Eb:areK (qak l n.kids) [4]=qar l n 0 1 1:=by rw [qkq,are_b]
 have Eeb:areK (qak l n.kids) [3,4]=qar l n 1 1 1:=by rw [qkq,jjt]
 have Eee:areK (qak l n.kids) [3,3]=qar l n 2 0 0:=by rw [qkq,jju]
 have Eif:(areK (qak l n.kids) [3,4] || areK (qak l n.kids) [3,4,4])=qar l n 1 1 2:=by rw [qkq,jjv]
 have Ech:(decide (0<(qak l n.kids).length) && allK (qak l n.kids) 4)=qar l n 0 1 800:=by rw [qkq,jjw _ (by omega)]
 show (qj n (cntW n.kind) && qaa n.nums (bndF n.kind) && qpk n.kind (qak l n.kids))=qtq l n n.kind
 generalize qak l n.kids=ks at L0 A1 A2 AV Ee Eb Eeb Eee Eif Ech
 generalize n.kind=k
 clear hl
 by_cases h0:k=0
 ·subst h0;show (qj n 0 && qaa n.nums [] && allK ks 1)=_;rw [W0,A1];rfl
 by_cases h1:k=1
 ·subst h1;show (qj n 1 && qaa n.nums [(0,999999),(0,999999),(0,1),(0,1)] && decide (ks.length=0))=(qj n 1 && qx n 4 999999 && decide (n.nums.getD 2 0≤1) && decide (n.nums.getD 3 0≤1) && (n.kids.length:Int) == 0)
  rw [Wc,L0,show (n.nums.all (fun x=>decide (0≤x) && decide (x≤999999)) && (n.nums.length:Int) == 4)=qx n 4 999999 from rfl]
  simp only [Bool.and_assoc]
 by_cases h2:k=2
 ·subst h2;show (qj n 1 && qaa n.nums [(0,999999),(-999999,999999)] && decide (ks.length=0))=(qj n 1 && (n.nums.length:Int) == 2 && inK (n.nums.getD 0 0) 0 999999 && inK (n.nums.getD 1 0) (-999999) 999999 && (n.kids.length:Int) == 0)
  rw [Wv,L0]
  simp only [Bool.and_assoc]
 by_cases h3:k=3
 ·subst h3;show (qj n 1 && qaa n.nums [(0,999999)] && allK (ks.dropWhile (· == 2)) 2)=_;rw [W1,AV];rfl
 by_cases h4:k=4
 ·subst h4;show (qj n 0 && qaa n.nums [] && areK ks [3])=_;rw [W0,Ee];rfl
 by_cases h5:k=5
 ·subst h5;show (qj n 0 && qaa n.nums [] && decide (ks.length=0))=_;rw [W0,L0];rfl
 by_cases h6:k=6
 ·subst h6;show (qj n 1 && qaa n.nums [] && areK ks [3])=_;rw [W0,Ee];rfl
 by_cases h7:k=7
 ·subst h7;show (qj n 1 && qaa n.nums [] && areK ks [3])=_;rw [W0,Ee];rfl
 by_cases h8:k=8
 ·subst h8;show (qj n 2 && qaa n.nums [(0,1)] && decide (ks.length=0))=_;rw [Wf,L0];rfl
 by_cases h9:k=9
 ·subst h9;show (qj n 0 && qaa n.nums [(0,1)] && areK ks [3])=_;rw [Wf,Ee];rfl
 by_cases h10:k=10
 ·subst h10;show (qj n 0 && qaa n.nums [(0,1)] && (decide (0<ks.length) && allK ks 4))=_;rw [Wf,Ech];rfl
 by_cases h11:k=11
 ·subst h11;show (qj n 0 && qaa n.nums [] && (areK ks [3,4] || areK ks [3,4,4]))=_;rw [W0,Eif];rfl
 by_cases h12:k=12
 ·subst h12;show (qj n 0 && qaa n.nums [] && areK ks [3,4])=_;rw [W0,Eeb];rfl
 by_cases h13:k=13
 ·subst h13;show (qj n 0 && qaa n.nums [] && areK ks [4])=_;rw [W0,Eb];rfl
 by_cases h14:k=14
 ·subst h14;show (qj n 0 && qaa n.nums [] && decide (ks.length=0))=_;rw [W0,L0];rfl
 by_cases h15:k=15
 ·subst h15;show (qj n 0 && qaa n.nums [] && decide (ks.length=0))=_;rw [W0,L0];rfl
 by_cases h16:k=16
 ·subst h16;show (qj n 0 && qaa n.nums [] && allK ks 2)=_;rw [W0,A2];rfl
 by_cases h17:k=17
 ·subst h17;show (qj n 0 && qaa n.nums [(0,999999)] && decide (ks.length=0))=_;rw [W1,L0];rfl
 by_cases h18:k=18
 ·subst h18;show (qj n 1 && qaa n.nums [] && decide (ks.length=0))=_;rw [W0,L0];rfl
 by_cases h19:k=19
 ·subst h19;show (qj n 1 && qaa n.nums [] && decide (ks.length=0))=_;rw [W0,L0];rfl
 by_cases h20:k=20
 ·subst h20;show (qj n 0 && qaa n.nums [] && areK ks [3])=_;rw [W0,Ee];rfl
 by_cases h21:k=21
 ·subst h21;show (qj n 0 && qaa n.nums [] && areK ks [3])=_;rw [W0,Ee];rfl
 by_cases h22:k=22
 ·subst h22;show (qj n 0 && qaa n.nums [(0,8)] && areK ks [3,3])=_;rw [W8,Eee];rfl
 have k1:qpk k ks=false:=by
  unfold qpk
  repeat rw [za (by omega)]
 have k2:qtq l n k=false:=by
  unfold qtq
  repeat rw [za (by omega)]
 rw [k1,k2,Bool.and_false]
/-! Trees. -/
end Go.St
end
section
namespace Go.Proofs.Ythfaleaojlnnoaa
namespace Pa
open Go Go.Sx
theorem jke:∀ b:UInt8,Lx.digB b=true→48≤b.toNat∧b.toNat≤57:=by
 have h:∀ b:Fin 256,Lx.digB (UInt8.ofNat b)=true→48≤b.val∧b.val≤57:=by decide +kernel
 intro b hb
 have:=h ⟨b.toNat,b.toNat_lt⟩
 simp only [UInt8.ofNat_toNat] at this
 exact this hb
theorem qpo (p:UInt8→Bool):∀ l:List UInt8,∀ b∈l.take (Lx.spanN p l),p b=true
 | [],b,h=>by simp at h
 | x::r,b,h=>by
  rw [Lx.spanN] at h
  split at h
  ·rename_i hx
   rw [Nat.add_comm,xy] at h
   rcases List.mem_cons.1 h with rfl|h
   ·exact hx
   ·exact qpo p r b h
  ·simp at h
theorem jkf (l:List UInt8):Lx.firstK l≠3:=by
 unfold Lx.firstK
 split
 ·decide
 ·split
  ·decide
  ·split <;> decide
theorem jkg {l:List UInt8} (h:Lx.firstK l=1) (h0:Lx.firstN l≠0):(l.take (Lx.firstN l)).length≤6∧∀ b∈l.take (Lx.firstN l),48≤b.toNat∧b.toNat≤57:=by
 cases l with
 | nil=>simp [Lx.firstK] at h
 | cons x r=>
  unfold Lx.firstK at h
  unfold Lx.firstN at h0 ⊢
  simp only at h h0 ⊢
  split at h
  ·simp at h
  ·rename_i h2
   rw [za h2] at h0 ⊢
   split at h
   ·rename_i h3
    rw [zb h3] at h0 ⊢
    split at h0
    ·exact absurd rfl h0
    ·rename_i h6
     rw [za h6]
     refine ⟨?_,fun b hb=>jke b (qpo _ _ b hb)⟩
     rw [xc];omega
   ·simp at h
theorem jkh:∀ (n:Nat) (l:List UInt8) (p:Nat) (ts:List Lx.Tok),l.length≤n→Lx.lexR l p=.ok ts→
  ∃ pre e,ts=pre++[⟨3,[],e⟩]∧(∀ t∈pre,t.kind≠3∧(t.kind=1→t.s.length≤6∧∀ b∈t.s,48≤b.toNat∧b.toNat≤57))∧pre.length≤l.length:=by
 intro n
 induction n with
 | zero=>
  intro l p ts hl h
  obtain rfl:l=[]:=List.length_eq_zero_iff.1 (by omega)
  rw [Lx.lexR_nil] at h
  cases h
  exact ⟨[],_,rfl,fun t ht=>by simp at ht,zj _⟩
 | succ n ih=>
  intro l p ts hl h
  cases l with
  | nil=>
   rw [Lx.lexR_nil] at h
   cases h
   exact ⟨[],_,rfl,fun t ht=>by simp at ht,zj _⟩
  | cons b r=>
   have hr:r.length≤n:=by simpa using hl
   rw [Lx.lexR_cons] at h
   split at h
   ·obtain ⟨pre,e,h1,h2,h3⟩:=ih r _ ts hr h
    exact ⟨pre,e,h1,h2,by simp;omega⟩
   split at h
   ·obtain ⟨pre,e,h1,h2,h3⟩:=ih (r.drop (Lx.lineN r)) _ ts (by rw [zk];omega) h
    exact ⟨pre,e,h1,h2,by rw [zk] at h3;simp;omega⟩
   split at h
   ·cases h
   ·rename_i h0
    cases hx:Lx.lexR (r.drop (Lx.firstN (b::r) - 1)) (p+Lx.firstN (b::r)) with
    | error e=>rw [hx] at h;cases h
    | ok ts'=>
     rw [hx] at h
     cases h
     obtain ⟨pre,e,h1,h2,h3⟩:=ih (r.drop (Lx.firstN (b::r) - 1)) _ ts' (by rw [zk];omega) hx
     refine ⟨⟨Lx.firstK (b::r),(b::r).take (Lx.firstN (b::r)),p⟩::pre,e,by rw [h1];rfl,fun t ht=>?_,by rw [zk] at h3;simp;omega⟩
     rcases List.mem_cons.1 ht with rfl|ht
     ·exact ⟨jkf (b::r),fun hk=>jkg (l:=b::r) hk h0⟩
     ·exact h2 t ht
theorem qiv {s:List UInt8} (h:(Lx.lexAll s).2.1=0):ToksOk (Lx.lexAll s).1∧0<(Lx.lexAll s).1.length:=by
 unfold Lx.lexAll at h ⊢
 split at h
 ·simp at h
 rename_i hs
 rw [za hs]
 split at h
 ·rename_i ts hts
  obtain ⟨pre,e,h1,h2,h3⟩:=jkh _ s 0 ts (zj _) hts
  simp only
  subst h1
  refine ⟨⟨by simp;omega,fun i hi=>?_,fun t ht hk=>?_⟩,by simp⟩
  ·rw [List.getD_eq_getElem?_getD]
   by_cases hip:i<pre.length
   ·rw [zq hip,ze hip]
    have:=(h2 _ (xq hip)).1
    simp only [Option.getD_some,zr,List.length_singleton]
    constructor
    ·intro h;exact absurd h this
    ·intro h;omega
   ·have:i=pre.length:=by simp at hi;omega
    subst this
    rw [zo (zj _),zad]
    simp
  ·rcases List.mem_append.1 ht with ht|ht
   ·exact (h2 t ht).2 hk
   ·rw [xj] at ht
    subst ht
    simp at hk
 ·simp at h
end Pa
end Go.Proofs.Ythfaleaojlnnoaa
end
