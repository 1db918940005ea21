/- Which lists are trees: the program's way is the document's. Plain. -/
import Derived.Test.YthfaleaojlnnoaaY7RgP
import Derived.Test.YthfaleaojlnnoaaY72
set_option linter.unusedSimpArgs false
set_option linter.unusedVariables false
namespace Go.St
open List renaming getD_eq_getElem?_getD → zd
open Go Go.Sx
theorem qzw {α:Type} (p:α→Bool):∀ l:List α,l.dropWhile p=l.drop (l.takeWhile p).length
 | []=>rfl
 | x::r=>by
  rw [List.dropWhile_cons,List.takeWhile_cons]
  cases p x with
  | true=>exact qzw p r
  | false=>rfl
theorem qzx {α:Type} (p:α→Bool) (d:α):∀ l:List α,(l.takeWhile p).length≤l.length∧(∀ j,j<(l.takeWhile p).length→p (l.getD j d)=true)∧((l.takeWhile p).length=l.length∨p (l.getD (l.takeWhile p).length d)=false)
 | []=>⟨zi _,fun j hj=>absurd hj (zv _),.inl rfl⟩
 | x::r=>by
  obtain ⟨h1,h2,h3⟩:=qzx p d r
  rw [List.takeWhile_cons]
  cases hp:p x with
  | true=>
   rw [zb rfl,zq,zq]
   refine ⟨by omega,fun j hj=>?_,?_⟩
   ·cases j with
    | zero=>exact hp
    | succ j=>exact h2 j (by omega)
   ·rcases h3 with h3|h3
    ·exact .inl (by omega)
    ·exact .inr h3
  | false=>
   rw [za (by simp)]
   exact ⟨xv _,fun j hj=>absurd hj (zv _),.inr hp⟩
theorem jkp (l:List Nd) (n:Nd) (a b:Int):allB l n (qfa l n) a b=((jv l n.kids).dropWhile (· == 2)).all fun k=>inK k a b:=by
 have hl:(jv l n.kids).length=n.kids.length:=by unfold jv;rw [zu]
 obtain ⟨h1,h2,h3⟩:=qzx (· == 2) (0:Int) (jv l n.kids)
 have hv:qfa l n=((jv l n.kids).takeWhile (· == 2)).length:=by
  refine qtk l n _ (by omega) (fun j hj=>?_) ?_
  ·have:=h2 j hj
   rw [qky l n (by omega)]
   exact beq_iff_eq.1 this
  ·rcases h3 with h3|h3
   ·exact .inl (by omega)
   ·by_cases h4:((jv l n.kids).takeWhile (· == 2)).length<n.kids.length
    ·rw [qky l n h4]
     exact .inr (beq_eq_false_iff_ne.1 h3)
    ·exact .inl (by omega)
 rw [hv,qzw]
 generalize ((jv l n.kids).takeWhile (· == 2)).length=v at h1
 rw [← qpu (fun k=>inK k a b) 0,zr,hl]
 unfold allB
 rw [xc,zs,zs]
 constructor
 ·intro h i hi
  rw [zas] at hi
  have:=h (v+i) (List.mem_range.2 (by omega))
  rw [zt (by omega),xq,qky l n (by omega)] at this
  rw [zd,zy,← zd]
  exact this
 ·intro h i hi
  rw [zas] at hi
  by_cases hiv:i<v
  ·rw [xw hiv];rfl
  ·have:=h (i - v) (List.mem_range.2 (by omega))
   rw [zd,zy,← zd,show v+(i - v)=i by omega] at this
   rw [qky l n hi,this,Bool.or_true]
def qua (l:List Nd) (n:Nd) (k:Int):Bool:=
 if k=0 then qg n 0 && qt n 0 0 && allB l n 0 1 5
 else if k=1 then qg n 1 && qt n 4 999999 && decide (n.nums.getD 2 0≤1) && decide (n.nums.getD 3 0≤1) && (n.kids.length:Int) == 0
 else if k=2 then qg n 1 && (n.nums.length:Int) == 2 && inK (n.nums.getD 0 0) 0 999999 && inK (n.nums.getD 1 0) (-999999) 999999 && (n.kids.length:Int) == 0
 else if k=3 then qg n 1 && qt n 1 999999 && allB l n (qfa l n) 6 15
 else if k=4∨k=20∨k=21 then qg n 0 && qt n 0 0 && qag l n 1 0 0
 else if k=5∨k=14∨k=15 then qg n 0 && qt n 0 0 && (n.kids.length:Int) == 0
 else if k=6∨k=7 then qg n 1 && qt n 0 0 && qag l n 1 0 0
 else if k=8 then qg n 2 && qt n 1 1 && (n.kids.length:Int) == 0
 else if k=9 then qg n 0 && qt n 1 1 && qag l n 1 0 0
 else if k=10 then qg n 0 && qt n 1 1 && qag l n 0 1 800
 else if k=11 then qg n 0 && qt n 0 0 && qag l n 1 1 2
 else if k=12 then qg n 0 && qt n 0 0 && qag l n 1 1 1
 else if k=13 then qg n 0 && qt n 0 0 && qag l n 0 1 1
 else if k=16 then qg n 0 && qt n 0 0 && allB l n 0 6 15
 else if k=17 then qg n 0 && qt n 1 999999 && (n.kids.length:Int) == 0
 else if k=18∨k=19 then qg n 1 && qt n 0 0 && (n.kids.length:Int) == 0
 else if k=22 then qg n 0 && qt n 1 8 && qag l n 2 0 0
 else false
theorem qpx (l:List Nd) (n:Nd) (h:n.kids.length≤800):qni n (jv l n.kids)=qaa l n:=by
 have W0:jo n.nums []=qt n 0 0:=qpw _ 0 [] (fun b hb=>absurd hb List.not_mem_nil)
 have W1:jo n.nums [(0,999999)]=qt n 1 999999:=qpw _ 999999 [(0,999999)] (fun b hb=>List.mem_singleton.1 hb)
 have Wf:jo n.nums [(0,1)]=qt n 1 1:=qpw _ 1 [(0,1)] (fun b hb=>List.mem_singleton.1 hb)
 have W8:jo n.nums [(0,8)]=qt n 1 8:=qpw _ 8 [(0,8)] (fun b hb=>List.mem_singleton.1 hb)
 have Wc:=jkn n.nums
 have Wv:=jko n.nums
 have hl:(jv l n.kids).length=n.kids.length:=by unfold jv;rw [zu]
 have L0:decide ((jv l n.kids).length=0)=((n.kids.length:Int) == 0):=by
  rw [xc,zo,xn];omega
 have A1:allK (jv l n.kids) 1=allB l n 0 1 5:=by
  rw [qzu];unfold allK;rw [show (fun k=>qak k == 1)=(fun k:Int=>inK k 1 5) from funext sort1]
 have A2:allK (jv l n.kids) 2=allB l n 0 6 15:=by
  rw [qzu];unfold allK;rw [show (fun k=>qak k == 2)=(fun k:Int=>inK k 6 15) from funext qzv]
 have AV:allK ((jv l n.kids).dropWhile (· == 2)) 2=allB l n (qfa l n) 6 15:=by
  rw [jkp];unfold allK;rw [show (fun k=>qak k == 2)=(fun k:Int=>inK k 6 15) from funext qzv]
 have Ee:areK (jv l n.kids) [3]=qag l n 1 0 0:=by rw [qkz,are_e]
 have Eb:areK (jv l n.kids) [4]=qag l n 0 1 1:=by rw [qkz,are_b]
 have Eeb:areK (jv l n.kids) [3,4]=qag l n 1 1 1:=by rw [qkz,jkj]
 have Eee:areK (jv l n.kids) [3,3]=qag l n 2 0 0:=by rw [qkz,jkk]
 have Eif:(areK (jv l n.kids) [3,4] || areK (jv l n.kids) [3,4,4])=qag l n 1 1 2:=by rw [qkz,jkl]
 have Ech:(decide (0<(jv l n.kids).length) && allK (jv l n.kids) 4)=qag l n 0 1 800:=by rw [qkz,jkm _ (by omega)]
 show (qg n (cntW n.kind) && jo n.nums (bndF n.kind) && qjd n.kind (jv l n.kids))=qua l n n.kind
 generalize jv l n.kids=ks at L0 A1 A2 AV Ee Eb Eeb Eee Eif Ech
 generalize n.kind=k
 clear hl
 by_cases h0:k=0
 ·subst h0;show (qg n 0 && jo n.nums [] && allK ks 1)=_;rw [W0,A1];rfl
 by_cases h1:k=1
 ·subst h1;show (qg n 1 && jo n.nums [(0,999999),(0,999999),(0,1),(0,1)] && decide (ks.length=0))=(qg n 1 && qt n 4 999999 && decide (n.nums.getD 2 0≤1) && decide (n.nums.getD 3 0≤1) && (n.kids.length:Int) == 0)
  rw [Wc,L0,show (n.nums.all (fun x=>decide (0≤x) && decide (x≤999999)) && (n.nums.length:Int) == 4)=qt n 4 999999 from rfl]
  simp only [Bool.and_assoc]
 by_cases h2:k=2
 ·subst h2;show (qg n 1 && jo n.nums [(0,999999),(-999999,999999)] && decide (ks.length=0))=(qg n 1 && (n.nums.length:Int) == 2 && inK (n.nums.getD 0 0) 0 999999 && inK (n.nums.getD 1 0) (-999999) 999999 && (n.kids.length:Int) == 0)
  rw [Wv,L0]
  simp only [Bool.and_assoc]
 by_cases h3:k=3
 ·subst h3;show (qg n 1 && jo n.nums [(0,999999)] && allK (ks.dropWhile (· == 2)) 2)=_;rw [W1,AV];rfl
 by_cases h4:k=4
 ·subst h4;show (qg n 0 && jo n.nums [] && areK ks [3])=_;rw [W0,Ee];rfl
 by_cases h5:k=5
 ·subst h5;show (qg n 0 && jo n.nums [] && decide (ks.length=0))=_;rw [W0,L0];rfl
 by_cases h6:k=6
 ·subst h6;show (qg n 1 && jo n.nums [] && areK ks [3])=_;rw [W0,Ee];rfl
 by_cases h7:k=7
 ·subst h7;show (qg n 1 && jo n.nums [] && areK ks [3])=_;rw [W0,Ee];rfl
 by_cases h8:k=8
 ·subst h8;show (qg n 2 && jo n.nums [(0,1)] && decide (ks.length=0))=_;rw [Wf,L0];rfl
 by_cases h9:k=9
 ·subst h9;show (qg n 0 && jo n.nums [(0,1)] && areK ks [3])=_;rw [Wf,Ee];rfl
 by_cases h10:k=10
 ·subst h10;show (qg n 0 && jo n.nums [(0,1)] && (decide (0<ks.length) && allK ks 4))=_;rw [Wf,Ech];rfl
 by_cases h11:k=11
 ·subst h11;show (qg n 0 && jo n.nums [] && (areK ks [3,4] || areK ks [3,4,4]))=_;rw [W0,Eif];rfl
 by_cases h12:k=12
 ·subst h12;show (qg n 0 && jo n.nums [] && areK ks [3,4])=_;rw [W0,Eeb];rfl
 by_cases h13:k=13
 ·subst h13;show (qg n 0 && jo n.nums [] && areK ks [4])=_;rw [W0,Eb];rfl
 by_cases h14:k=14
 ·subst h14;show (qg n 0 && jo n.nums [] && decide (ks.length=0))=_;rw [W0,L0];rfl
 by_cases h15:k=15
 ·subst h15;show (qg n 0 && jo n.nums [] && decide (ks.length=0))=_;rw [W0,L0];rfl
 by_cases h16:k=16
 ·subst h16;show (qg n 0 && jo n.nums [] && allK ks 2)=_;rw [W0,A2];rfl
 by_cases h17:k=17
 ·subst h17;show (qg n 0 && jo n.nums [(0,999999)] && decide (ks.length=0))=_;rw [W1,L0];rfl
 by_cases h18:k=18
 ·subst h18;show (qg n 1 && jo n.nums [] && decide (ks.length=0))=_;rw [W0,L0];rfl
 by_cases h19:k=19
 ·subst h19;show (qg n 1 && jo n.nums [] && decide (ks.length=0))=_;rw [W0,L0];rfl
 by_cases h20:k=20
 ·subst h20;show (qg n 0 && jo n.nums [] && areK ks [3])=_;rw [W0,Ee];rfl
 by_cases h21:k=21
 ·subst h21;show (qg n 0 && jo n.nums [] && areK ks [3])=_;rw [W0,Ee];rfl
 by_cases h22:k=22
 ·subst h22;show (qg n 0 && jo n.nums [(0,8)] && areK ks [3,3])=_;rw [W8,Eee];rfl
 have k1:qjd k ks=false:=by
  unfold qjd
  repeat rw [za (by omega)]
 have k2:qua l n k=false:=by
  unfold qua
  repeat rw [za (by omega)]
 rw [k1,k2,Bool.and_false]
/-! Trees. -/
theorem qub (v:Int→Int × Bool) (len:Int) (hv:∀ a n,0≤a→v a=(n,true)→a<n∧(a<len→n≤len)):∀ (ks:List Int) (next e:Int),0≤next→next≤len→walkL v len ks next=(e,true)→next+ks.length≤e∧e≤len
 | [],next,e,_,hn,h=>by
  simp only [walkL,Prod.mk.injEq,and_true] at h
  subst h
  exact ⟨by simp,hn⟩
 | k::ks,next,e,h0,hn,h=>by
  rw [walkL] at h
  split at h
  ·simp at h
  rename_i hk
  split at h
  ·simp at h
  rename_i hb
  have hx:v next=((v next).1,true):=Prod.ext rfl (by cases hc:(v next).2 with|true=>rfl|false=>exact absurd hc hb)
  have h1:=hv next _ h0 hx
  have h2:=qub v len hv ks _ e (by omega) (h1.2 (by omega)) h
  rw [zq]
  omega
def quc (l:List Nd) (a e:Int):Prop:=∀ j:Nat,a≤j→(j:Int)<e→qaa l (l.getD j nd0)=true
theorem qzy (l:List Nd) (d:Nat) (H:∀ a e,0≤a→(qal l d a=(e,true)↔(a<l.length∧walkF l d a=(e,true))∧quc l a e)) :
  ∀ (ks:List Int) (next:Int) (acc:List Int) (e:Int) (out:List Int),0≤next→(qds l (qal l d) ks next acc=some (e,out)↔(walkL (walkF l d) l.length ks next=(e,true)∧quc l next e)∧out=acc++jv l ks)
 | [],next,acc,e,out,h0=>by
  rw [qds,walkL]
  simp only [Option.some.injEq,Prod.mk.injEq,and_true]
  constructor
  ·rintro ⟨rfl,rfl⟩
   exact ⟨⟨rfl,fun j h1 h2=>by omega⟩,by simp [jv]⟩
  ·rintro ⟨⟨rfl,_⟩,rfl⟩
   exact ⟨rfl,by simp [jv]⟩
 | k::ks,next,acc,e,out,h0=>by
  rw [qds,walkL]
  by_cases hk:k=next
  ·subst hk
   rw [za (fun h=>h rfl)]
   have hiff:=H k (qal l d k).1 h0
   cases hb:(qal l d k).2 with
   | false=>
    rw [zb rfl]
    constructor
    ·intro h;cases h
    ·rintro ⟨⟨h1,h2⟩,h3⟩
     exfalso
     split at h1
     ·simp at h1
     rename_i hl
     split at h1
     ·simp at h1
     rename_i hw
     have hx:walkF l d k=((walkF l d k).1,true):=Prod.ext rfl (by cases hc:(walkF l d k).2 with|true=>rfl|false=>exact absurd hc hw)
     have hg:=qhs l d k _ h0 hx
     have hg2:=qtz l (walkF l d) (qhs l d) ks _ e (by omega) h1
     have:=(H k (walkF l d k).1 h0).2 ⟨⟨by omega,hx⟩,fun j j1 j2=>h2 j j1 (by omega)⟩
     rw [this] at hb
     cases hb
   | true=>
    rw [za (by simp)]
    have hx:qal l d k=((qal l d k).1,true):=Prod.ext rfl hb
    obtain ⟨⟨hlt,hw⟩,hN⟩:=hiff.1 hx
    have hg:=qhs l d k _ h0 hw
    rw [za (by omega),hw,za (by simp)]
    rw [qzy l d H ks _ _ e out (by omega)]
    show _↔(walkL (walkF l d) l.length ks (qal l d k).1=(e,true)∧_)∧_
    have hkd:jv l (k::ks)=(l.getD k.toNat nd0).kind::jv l ks:=rfl
    rw [hkd,xj,List.singleton_append]
    constructor
    ·rintro ⟨⟨h1,h2⟩,h3⟩
     exact ⟨⟨h1,fun j j1 j2=>if hj:(j:Int)<(qal l d k).1 then hN j j1 hj else h2 j (by omega) j2⟩,h3⟩
    ·rintro ⟨⟨h1,h2⟩,h3⟩
     exact ⟨⟨h1,fun j j1 j2=>h2 j (by omega) j2⟩,h3⟩
  ·rw [zb hk,zb (.inl hk)]
   constructor
   ·intro h;cases h
   ·rintro ⟨⟨h,_⟩,_⟩
    simp at h
theorem qud (l:List Nd) (hl:l.length≤800):∀ (d:Nat) (a e:Int),0≤a→(qal l d a=(e,true)↔(a<l.length∧walkF l d a=(e,true))∧quc l a e)
 | 0,a,e,h0=>by
  rw [qal,walkF]
  simp
 | d+1,a,e,h0=>by
  rw [qal,walkF]
  by_cases ha:(l.length:Int)≤a
  ·rw [zb ha]
   constructor
   ·intro h;simp at h
   ·rintro ⟨⟨h,_⟩,_⟩;omega
  rw [za ha]
  have key:=qzy l d (qud l hl d) (l.getD a.toNat nd0).kids (a+1) []
  constructor
  ·intro h
   unfold endT at h
   split at h
   ·simp at h
   rename_i e' out hk
   simp only [Prod.mk.injEq] at h
   obtain ⟨rfl,h⟩:=h
   obtain ⟨⟨h1,h2⟩,rfl⟩:=(key e' out (by omega)).1 hk
   have h3:=qub (walkF l d) l.length (fun a n h0 h=>(qhs l d a n h0 h).1) _ _ _ (by omega) (by omega) h1
   rw [List.nil_append,qpx l _ (by omega)] at h
   refine ⟨⟨by omega,h1⟩,fun j j1 j2=>?_⟩
   by_cases hj:(j:Int)=a
   ·rw [show a.toNat=j by omega] at h;exact h
   ·exact h2 j (by omega) j2
  ·rintro ⟨⟨_,h1⟩,h2⟩
   have h3:=qub (walkF l d) l.length (fun a n h0 h=>(qhs l d a n h0 h).1) _ _ _ (by omega) (by omega) h1
   rw [(key e _ (by omega)).2 ⟨⟨h1,fun j j1 j2=>h2 j (by omega) j2⟩,rfl⟩]
   show (e,qni _ _)=(e,true)
   rw [List.nil_append,qpx l _ (by omega)]
   have:=h2 a.toNat (by omega) (by omega)
   rw [this]
theorem jkq (l:List Nd):qkx l=qdm l:=by
 unfold qkx qdm
 cases hc:(decide (l.length=0) || decide (800<l.length) || (l.getD 0 nd0).kind != 0) with
 | true=>rfl
 | false=>
  simp only [zao,decide_eq_false_iff_not] at hc
  have key:=qud l (by omega) 20 0 l.length (zk _)
  show (true && _)=(true && _ && _)
  rw [zan,zan,xc]
  have t1:((qal l 20 0).2 && (qal l 20 0).1 == (l.length:Int))=true↔qal l 20 0=((l.length:Int),true):=by
   rw [zf,xn,Prod.ext_iff];exact and_comm
  have t2:((walkF l 20 0).2 && (walkF l 20 0).1 == (l.length:Int))=true↔walkF l 20 0=((l.length:Int),true):=by
   rw [zf,xn,Prod.ext_iff];exact and_comm
  rw [t1,zf,t2,key]
  constructor
  ·rintro ⟨⟨_,h1⟩,h2⟩
   refine ⟨h1,List.all_eq_true.2 fun x hx=>?_⟩
   obtain ⟨j,hj,rfl⟩:=List.getElem_of_mem hx
   have:=h2 j (by omega) (by omega)
   rwa [zd,ze hj] at this
  ·rintro ⟨h1,h2⟩
   refine ⟨⟨by omega,h1⟩,fun j _ hj=>?_⟩
   have:=List.all_eq_true.1 h2 (l.getD j nd0) (by rw [zd,ze (show j<l.length by omega)];exact xt _)
   exact this
theorem jkr (l:List Nd) (hl:l.length≤800) {d:Nat} {a e:Int} (h0:0≤a) (h:qal l d a=(e,true)):a<e∧e≤l.length:=by
 obtain ⟨⟨h1,h2⟩,_⟩:=(qud l hl d a e h0).1 h
 have:=(qhs l d a e h0 h2).1
 exact ⟨this.1,this.2 h1⟩
end Go.St
