/- Automata by the document's answer: what is so of them, in plain Lean. -/
import Derived.Test.YtikahnkkfkoglaaGreatDoorY28
import Derived.Test.YtikahnkkfkoglaaGreatDoorY22
set_option linter.unusedSimpArgs false
set_option linter.unusedVariables false
namespace Go.St
open Go Go.Sx
/-! What a right tree's nodes are. -/
theorem qcx {n:Nd} {c:Int} (h:wordsB n c=true):(n.words.length:Int)=c:=by
 unfold wordsB at h
 rw [zf,xu] at h
 exact h.2
theorem qwk {l:List Nd} {n:Nd} {frm:Nat} {a b:Int} (h:allB l n frm a b=true) {i:Nat} (hi:i<n.kids.length) (hf:frm≤i):a≤kidK l n i∧kidK l n i≤b:=by
 have:=qoq h hi
 simp only [xr,xd,inK,zf] at this
 rcases this with h|h
 ·omega
 ·exact h
theorem qfi {l:List Nd} {n:Nd} {a b c:Int} (h:exprsB l n a b c=true):a+b≤(n.kids.length:Int)∧(n.kids.length:Int)≤a+c:=by
 unfold exprsB at h
 simp only [zf,xd] at h
 exact h.2
theorem qjh {l:List Nd} {n:Nd} {a b c:Int} (h:exprsB l n a b c=true) {i:Nat} (hi:i<n.kids.length):((i:Int)<a→17≤kidK l n i∧kidK l n i≤22)∧(a≤(i:Int)→kidK l n i=16):=by
 unfold exprsB at h
 rw [zf] at h
 have:=qoq h.1 hi
 simp only [zah,xq,Bool.and_eq_false_imp,xd,Bool.not_eq_false',bne_eq_false_iff_eq,inK,zf] at this
 exact ⟨fun h=>this.1 h,fun h=>this.2 h⟩
def kidsOk (l:List Nd) (n:Nd):Prop:=∀ i,i<n.kids.length→
 (n.kind=0→1≤kidK l n i∧kidK l n i≤5)∧(n.kind=3→(i<varsN l n→kidK l n i=2)∧(varsN l n≤i→6≤kidK l n i∧kidK l n i≤15)) ∧
 (n.kind≠0→n.kind≠3→6≤kidK l n i∧kidK l n i≤22)∧(n.kind=16→kidK l n i≤15) ∧
 (n.kind=10→kidK l n i=16)∧(n.kind=11∨n.kind=12→1≤i→kidK l n i=16)∧(n.kind=13→kidK l n i=16)
theorem qwl (l:List Nd) (n:Nd):varsN l n≤n.kids.length∧∀ j,j<varsN l n→kidK l n j=2:=by
 unfold varsN
 have hl:=qjb (fun i=>kidK l n i != 2) (List.range n.kids.length)
 rw [List.length_range] at hl
 have key:∀ j,j<n.kids.length→((j:Int)<Go.St.idx (fun i=>kidK l n i != 2) (List.range n.kids.length)∨Go.St.idx (fun i=>kidK l n i != 2) (List.range n.kids.length)<0)→kidK l n j=2:=by
  intro j hj hlt
  unfold Go.St.idx at hlt
  cases h:(List.range n.kids.length).findIdx? (fun i=>kidK l n i != 2) with
  | none=>
   rw [List.findIdx?_eq_none_iff] at h
   simpa using h j (List.mem_range.2 hj)
  | some i=>
   rw [h] at hlt
   simp only at hlt
   rw [zaq] at h
   obtain ⟨hi,_,h2⟩:=h
   have:=h2 j (by omega)
   simpa using this
 split
 ·exact ⟨zl _,fun j hj=>key j hj (.inr (by assumption))⟩
 ·exact ⟨by omega,fun j hj=>key j (by omega) (.inl (by omega))⟩
inductive NodeC (l:List Nd) (n:Nd):Prop
 | c0 (k:n.kind=0) (h1:wordsB n 0=true) (h2:numsB n 0 0=true) (h3:allB l n 0 1 5=true)
 | c1 (k:n.kind=1) (h1:wordsB n 1=true) (h2:numsB n 4 999999=true) (h3:decide (n.nums.getD 2 0≤1)=true) (h4:decide (n.nums.getD 3 0≤1)=true) (h5:((n.kids.length:Int) == 0)=true)
 | c2 (k:n.kind=2) (h1:wordsB n 1=true) (h2:((n.nums.length:Int) == 2)=true) (h3:inK (n.nums.getD 0 0) 0 999999=true) (h4:inK (n.nums.getD 1 0) (-999999) 999999=true) (h5:((n.kids.length:Int) == 0)=true)
 | c3 (k:n.kind=3) (h1:wordsB n 1=true) (h2:numsB n 1 999999=true) (h3:allB l n (varsN l n) 6 15=true)
 | c4 (k:n.kind=4∨n.kind=20∨n.kind=21) (h1:wordsB n 0=true) (h2:numsB n 0 0=true) (h3:exprsB l n 1 0 0=true)
 | c5 (k:n.kind=5∨n.kind=14∨n.kind=15) (h1:wordsB n 0=true) (h2:numsB n 0 0=true) (h3:((n.kids.length:Int) == 0)=true)
 | c6 (k:n.kind=6∨n.kind=7) (h1:wordsB n 1=true) (h2:numsB n 0 0=true) (h3:exprsB l n 1 0 0=true)
 | c8 (k:n.kind=8) (h1:wordsB n 2=true) (h2:numsB n 1 1=true) (h3:((n.kids.length:Int) == 0)=true)
 | c9 (k:n.kind=9) (h1:wordsB n 0=true) (h2:numsB n 1 1=true) (h3:exprsB l n 1 0 0=true)
 | c10 (k:n.kind=10) (h1:wordsB n 0=true) (h2:numsB n 1 1=true) (h3:exprsB l n 0 1 800=true)
 | c11 (k:n.kind=11) (h1:wordsB n 0=true) (h2:numsB n 0 0=true) (h3:exprsB l n 1 1 2=true)
 | c12 (k:n.kind=12) (h1:wordsB n 0=true) (h2:numsB n 0 0=true) (h3:exprsB l n 1 1 1=true)
 | c13 (k:n.kind=13) (h1:wordsB n 0=true) (h2:numsB n 0 0=true) (h3:exprsB l n 0 1 1=true)
 | c16 (k:n.kind=16) (h1:wordsB n 0=true) (h2:numsB n 0 0=true) (h3:allB l n 0 6 15=true)
 | c17 (k:n.kind=17) (h1:wordsB n 0=true) (h2:numsB n 1 999999=true) (h3:((n.kids.length:Int) == 0)=true)
 | c18 (k:n.kind=18∨n.kind=19) (h1:wordsB n 1=true) (h2:numsB n 0 0=true) (h3:((n.kids.length:Int) == 0)=true)
 | c22 (k:n.kind=22) (h1:wordsB n 0=true) (h2:numsB n 1 8=true) (h3:exprsB l n 2 0 0=true)
theorem jde {l:List Nd} {n:Nd} (h:nodeB l n=true):NodeC l n:=by
 unfold nodeB at h
 by_cases ec0:n.kind=0
 ·rw [zb ec0] at h
  simp only [zf] at h
  obtain ⟨⟨h1,h2⟩,h3⟩:=h
  exact .c0 ec0 h1 h2 h3
 rw [za ec0] at h
 by_cases ec1:n.kind=1
 ·rw [zb ec1] at h
  simp only [zf] at h
  obtain ⟨⟨⟨⟨h1,h2⟩,h3⟩,h4⟩,h5⟩:=h
  exact .c1 ec1 h1 h2 h3 h4 h5
 rw [za ec1] at h
 by_cases ec2:n.kind=2
 ·rw [zb ec2] at h
  simp only [zf] at h
  obtain ⟨⟨⟨⟨h1,h2⟩,h3⟩,h4⟩,h5⟩:=h
  exact .c2 ec2 h1 h2 h3 h4 h5
 rw [za ec2] at h
 by_cases ec3:n.kind=3
 ·rw [zb ec3] at h
  simp only [zf] at h
  obtain ⟨⟨h1,h2⟩,h3⟩:=h
  exact .c3 ec3 h1 h2 h3
 rw [za ec3] at h
 by_cases ec4:n.kind=4∨n.kind=20∨n.kind=21
 ·rw [zb ec4] at h
  simp only [zf] at h
  obtain ⟨⟨h1,h2⟩,h3⟩:=h
  exact .c4 ec4 h1 h2 h3
 rw [za ec4] at h
 by_cases ec5:n.kind=5∨n.kind=14∨n.kind=15
 ·rw [zb ec5] at h
  simp only [zf] at h
  obtain ⟨⟨h1,h2⟩,h3⟩:=h
  exact .c5 ec5 h1 h2 h3
 rw [za ec5] at h
 by_cases ec6:n.kind=6∨n.kind=7
 ·rw [zb ec6] at h
  simp only [zf] at h
  obtain ⟨⟨h1,h2⟩,h3⟩:=h
  exact .c6 ec6 h1 h2 h3
 rw [za ec6] at h
 by_cases ec8:n.kind=8
 ·rw [zb ec8] at h
  simp only [zf] at h
  obtain ⟨⟨h1,h2⟩,h3⟩:=h
  exact .c8 ec8 h1 h2 h3
 rw [za ec8] at h
 by_cases ec9:n.kind=9
 ·rw [zb ec9] at h
  simp only [zf] at h
  obtain ⟨⟨h1,h2⟩,h3⟩:=h
  exact .c9 ec9 h1 h2 h3
 rw [za ec9] at h
 by_cases ec10:n.kind=10
 ·rw [zb ec10] at h
  simp only [zf] at h
  obtain ⟨⟨h1,h2⟩,h3⟩:=h
  exact .c10 ec10 h1 h2 h3
 rw [za ec10] at h
 by_cases ec11:n.kind=11
 ·rw [zb ec11] at h
  simp only [zf] at h
  obtain ⟨⟨h1,h2⟩,h3⟩:=h
  exact .c11 ec11 h1 h2 h3
 rw [za ec11] at h
 by_cases ec12:n.kind=12
 ·rw [zb ec12] at h
  simp only [zf] at h
  obtain ⟨⟨h1,h2⟩,h3⟩:=h
  exact .c12 ec12 h1 h2 h3
 rw [za ec12] at h
 by_cases ec13:n.kind=13
 ·rw [zb ec13] at h
  simp only [zf] at h
  obtain ⟨⟨h1,h2⟩,h3⟩:=h
  exact .c13 ec13 h1 h2 h3
 rw [za ec13] at h
 by_cases ec16:n.kind=16
 ·rw [zb ec16] at h
  simp only [zf] at h
  obtain ⟨⟨h1,h2⟩,h3⟩:=h
  exact .c16 ec16 h1 h2 h3
 rw [za ec16] at h
 by_cases ec17:n.kind=17
 ·rw [zb ec17] at h
  simp only [zf] at h
  obtain ⟨⟨h1,h2⟩,h3⟩:=h
  exact .c17 ec17 h1 h2 h3
 rw [za ec17] at h
 by_cases ec18:n.kind=18∨n.kind=19
 ·rw [zb ec18] at h
  simp only [zf] at h
  obtain ⟨⟨h1,h2⟩,h3⟩:=h
  exact .c18 ec18 h1 h2 h3
 rw [za ec18] at h
 by_cases ec22:n.kind=22
 ·rw [zb ec22] at h
  simp only [zf] at h
  obtain ⟨⟨h1,h2⟩,h3⟩:=h
  exact .c22 ec22 h1 h2 h3
 rw [za ec22] at h
 cases h
theorem jqq {l:List Nd} {n:Nd} (h:nodeB l n=true):kidsOk l n:=by
 intro i hi
 have hz:((n.kids.length:Int) == 0)=true→False:=fun h=>by rw [xu] at h;omega
 cases jde h with
 | c0 k h1 h2 h3=>have:=qwk h3 hi (zv _);omega
 | c1 k h1 h2 h3 h4 h5=>exact (hz h5).elim
 | c2 k h1 h2 h3 h4 h5=>exact (hz h5).elim
 | c3 k h1 h2 h3=>
  have h1:=(qwl l n).2 i
  have h2:=fun hh=>qwk h3 hi hh
  exact ⟨fun _=>by omega,fun _=>⟨fun hh=>h1 hh,fun hh=>h2 hh⟩,fun _ _=>by omega,fun _=>by omega,fun _=>by omega,fun _ _=>by omega,fun _=>by omega⟩
 | c4 k h1 h2 h3=>have:=qjh h3 hi;have:=qfi h3;omega
 | c5 k h1 h2 h3=>exact (hz h3).elim
 | c6 k h1 h2 h3=>have:=qjh h3 hi;have:=qfi h3;omega
 | c8 k h1 h2 h3=>exact (hz h3).elim
 | c9 k h1 h2 h3=>have:=qjh h3 hi;have:=qfi h3;omega
 | c10 k h1 h2 h3=>have:=qjh h3 hi;omega
 | c11 k h1 h2 h3=>have:=qjh h3 hi;omega
 | c12 k h1 h2 h3=>have:=qjh h3 hi;omega
 | c13 k h1 h2 h3=>have:=qjh h3 hi;omega
 | c16 k h1 h2 h3=>have:=qwk h3 hi (zv _);omega
 | c17 k h1 h2 h3=>exact (hz h3).elim
 | c18 k h1 h2 h3=>exact (hz h3).elim
 | c22 k h1 h2 h3=>have:=qjh h3 hi;have:=qfi h3;omega
structure LenOk (n:Nd):Prop where
 kind:0≤n.kind∧n.kind≤22
 w1:n.kind=1∨n.kind=2∨n.kind=3∨n.kind=6∨n.kind=7∨n.kind=18∨n.kind=19→n.words.length=1
 w2:n.kind=8→n.words.length=2
 n4:n.kind=1→n.nums.length=4
 n2:n.kind=2→n.nums.length=2
 n1:n.kind=3∨n.kind=8∨n.kind=9∨n.kind=10∨n.kind=17∨n.kind=22→n.nums.length=1
 sign:n.kind=22→0≤n.nums.getD 0 0∧n.nums.getD 0 0≤8
 num:n.kind=3∨n.kind=8∨n.kind=9∨n.kind=10∨n.kind=17→0≤n.nums.getD 0 0∧n.nums.getD 0 0≤999999
 k1:n.kind=4∨n.kind=20∨n.kind=21∨n.kind=6∨n.kind=7∨n.kind=9∨n.kind=13→n.kids.length=1
 k2:n.kind=12∨n.kind=22→n.kids.length=2
 k3:n.kind=11→n.kids.length=2∨n.kids.length=3
 kc:n.kind=10→1≤n.kids.length
theorem jqr {n:Nd} {c m:Int} (h:numsB n c m=true) {i:Nat} (hi:i<n.nums.length):0≤n.nums.getD i 0∧n.nums.getD i 0≤m:=by
 unfold numsB at h
 rw [zf] at h
 have:=(qmc _ _ 0).1 h.1 i hi
 simpa using this
theorem jqs {l:List Nd} {n:Nd} (h:nodeB l n=true):LenOk n:=by
 have N:∀ {c m:Int},numsB n c m=true→(n.nums.length:Int)=c∧(0<n.nums.length→0≤n.nums.getD 0 0∧n.nums.getD 0 0≤m):=fun h=>⟨jpa h,fun hh=>jqr h hh⟩
 cases jde h with
 | c0 k h1 h2 h3=>
  have w:=qcx h1
  have e2:=N h2
  constructor <;> omega
 | c1 k h1 h2 h3 h4 h5=>
  have w:=qcx h1
  have e2:=N h2
  rw [xu] at h5
  constructor <;> omega
 | c2 k h1 h2 h3 h4 h5=>
  have w:=qcx h1
  rw [xu] at h2
  rw [xu] at h5
  constructor <;> omega
 | c3 k h1 h2 h3=>
  have w:=qcx h1
  have e2:=N h2
  constructor <;> omega
 | c4 k h1 h2 h3=>
  have w:=qcx h1
  have e2:=N h2
  have e3:=qfi h3
  constructor <;> omega
 | c5 k h1 h2 h3=>
  have w:=qcx h1
  have e2:=N h2
  rw [xu] at h3
  constructor <;> omega
 | c6 k h1 h2 h3=>
  have w:=qcx h1
  have e2:=N h2
  have e3:=qfi h3
  constructor <;> omega
 | c8 k h1 h2 h3=>
  have w:=qcx h1
  have e2:=N h2
  rw [xu] at h3
  constructor <;> omega
 | c9 k h1 h2 h3=>
  have w:=qcx h1
  have e2:=N h2
  have e3:=qfi h3
  constructor <;> omega
 | c10 k h1 h2 h3=>
  have w:=qcx h1
  have e2:=N h2
  have e3:=qfi h3
  constructor <;> omega
 | c11 k h1 h2 h3=>
  have w:=qcx h1
  have e2:=N h2
  have e3:=qfi h3
  constructor <;> omega
 | c12 k h1 h2 h3=>
  have w:=qcx h1
  have e2:=N h2
  have e3:=qfi h3
  constructor <;> omega
 | c13 k h1 h2 h3=>
  have w:=qcx h1
  have e2:=N h2
  have e3:=qfi h3
  constructor <;> omega
 | c16 k h1 h2 h3=>
  have w:=qcx h1
  have e2:=N h2
  constructor <;> omega
 | c17 k h1 h2 h3=>
  have w:=qcx h1
  have e2:=N h2
  rw [xu] at h3
  constructor <;> omega
 | c18 k h1 h2 h3=>
  have w:=qcx h1
  have e2:=N h2
  rw [xu] at h3
  constructor <;> omega
 | c22 k h1 h2 h3=>
  have w:=qcx h1
  have e2:=N h2
  have e3:=qfi h3
  constructor <;> omega
/-! The order of the nodes. -/
theorem jdf (l:List Nd) (w:Int→Int × Bool)
  (hw:∀ a n,0≤a→w a=(n,true)→∀ j:Nat,a<j→(j:Int)<n→∃ i:Nat,a≤i∧i<j∧(j:Int)∈(l.getD i nd0).kids) (hge:∀ a n,0≤a→w a=(n,true)→a<n) :
  ∀ (ks:List Int) (next n:Int),0≤next→walkL w l.length ks next=(n,true)→∀ j:Nat,next≤j→(j:Int)<n→(j:Int)∈ks∨∃ i:Nat,next≤i∧i<j∧(j:Int)∈(l.getD i nd0).kids
 | [],next,n,_,h,j,h1,h2=>by
  simp only [walkL,Prod.mk.injEq,and_true] at h
  omega
 | k::ks,next,n,h0,h,j,h1,h2=>by
  rw [walkL] at h
  split at h
  ·simp at h
  ·rename_i hk
   split at h
   ·simp at h
   ·rename_i hb
    have hwn:w next=((w next).1,true):=by
     cases hx:w next with
     | mk a b=>rw [hx] at hb;cases b <;> simp_all
    have hlt:=hge _ _ h0 hwn
    by_cases hj:(j:Int)<(w next).1
    ·by_cases hj0:(j:Int)=next
     ·left;rw [hj0];have:k=next:=by omega
      rw [this];exact zp ..
     ·right
      obtain ⟨i,h3,h4,h5⟩:=hw next _ h0 hwn j (by omega) hj
      exact ⟨i,h3,h4,h5⟩
    ·rcases jdf l w hw hge ks (w next).1 n (by omega) h j (by omega) h2 with h3|⟨i,h3,h4,h5⟩
     ·exact .inl (zq _ h3)
     ·exact .inr ⟨i,by omega,h4,h5⟩
theorem jdg (l:List Nd):∀ (f:Nat) (a n:Int),0≤a→walkF l f a=(n,true)→∀ j:Nat,a<j→(j:Int)<n→∃ i:Nat,a≤i∧i<j∧(j:Int)∈(l.getD i nd0).kids
 | 0,a,n,_,h=>by simp [walkF] at h
 | f+1,a,n,h0,h=>by
  intro j h1 h2
  rw [walkF] at h
  rcases jdf l (walkF l f) (jdg l f) (fun a n ha h=>(qaj l f a n ha h).1.1) _ _ n (by omega) h j (by omega) h2 with h3|⟨i,h3,h4,h5⟩
  ·exact ⟨a.toNat,by omega,by omega,h3⟩
  ·exact ⟨i,by omega,h4,h5⟩
theorem qsu (at_:Int):∀ (ks:List Int) (o:Int),(∀ k∈ks,at_<k)→qbf at_ ks o=o
 | [],_,_=>rfl
 | k::ks,o,h=>by
  rw [qbf,za (by have:=h k (zp ..);omega)]
  exact qsu at_ ks o fun q hq=>h q (zq _ hq)
theorem jdh (l:List Nd) (f:Nat):∀ (ks:List Int) (next n o:Int),0≤next→walkL (walkF l f) l.length ks next=(n,true)→∀ j:Nat,next≤j→(j:Int)<n→
  (qbf j ks o∈ks∧qbf j ks o≤j)∧(∀ c∈(l.getD j nd0).kids,qbf c ks o=qbf j ks o)∧((j:Int)∈ks→qbf j ks o=j)
 | [],next,n,o,_,h,j,h1,h2=>by
  simp only [walkL,Prod.mk.injEq,and_true] at h
  omega
 | k::ks,next,n,o,h0,h,j,h1,h2=>by
  rw [walkL] at h
  split at h
  ·simp at h
  ·rename_i hk
   split at h
   ·simp at h
   ·rename_i hb
    have hwn:walkF l f next=((walkF l f next).1,true):=by
     cases hx:walkF l f next with
     | mk a b=>rw [hx] at hb;cases b <;> simp_all
    obtain ⟨hg1,hg2⟩:=qaj l f next _ h0 hwn
    have hkn:k=next:=by omega
    subst hkn
    obtain ⟨hr1,hr2,hr3⟩:=qff l (walkF l f) (qaj l f) ks (walkF l f k).1 n (by omega) h
    by_cases hj:(j:Int)<(walkF l f k).1
    ·have e1:∀ c:Int,k≤c→c<(walkF l f k).1→qbf c (k::ks) o=k:=fun c hc1 hc2=>by
      rw [qbf,zb hc1,qsu c ks k fun q hq=>by have:=hr2 q hq;omega]
     rw [e1 j h1 hj]
     refine ⟨⟨zp ..,h1⟩,fun c hc=>?_,fun hm=>?_⟩
     ·have:=hg2 j h1 hj c hc
      exact e1 c (by omega) this.2
     ·rcases List.mem_cons.1 hm with h|h
      ·exact h.symm
      ·have:=hr2 _ h;omega
    ·have ih:=jdh l f ks (walkF l f k).1 n k (by omega) h j (by omega) h2
     have e1:∀ c:Int,k≤c→qbf c (k::ks) o=qbf c ks k:=fun c hc=>by rw [qbf,zb hc]
     rw [e1 j (by omega)]
     refine ⟨⟨zq _ ih.1.1,ih.1.2⟩,fun c hc=>?_,fun hm=>?_⟩
     ·have:=hr3 j (by omega) h2 c hc
      rw [e1 c (by omega)];exact ih.2.1 c hc
     ·rcases List.mem_cons.1 hm with h|h
      ·omega
      ·exact ih.2.2 h
theorem qsv (l:List Nd) (f:Nat):∀ (ks:List Int) (next n:Int),0≤next→walkL (walkF l f) l.length ks next=(n,true)→ks.Pairwise (· < ·)
 | [],_,_,_,_=>List.Pairwise.nil
 | k::ks,next,n,h0,h=>by
  rw [walkL] at h
  split at h
  ·simp at h
  ·rename_i hk
   split at h
   ·simp at h
   ·rename_i hb
    have hwn:walkF l f next=((walkF l f next).1,true):=by
     cases hx:walkF l f next with
     | mk a b=>rw [hx] at hb;cases b <;> simp_all
    obtain ⟨hg1,hg2⟩:=qaj l f next _ h0 hwn
    obtain ⟨hr1,hr2,hr3⟩:=qff l (walkF l f) (qaj l f) ks (walkF l f next).1 n (by omega) h
    exact List.Pairwise.cons (fun q hq=>by have:=hr2 q hq;omega) (qsv l f ks _ n (by omega) h)
structure Tree (l:List Nd):Prop where
 len:1≤l.length∧l.length≤800
 root:(l.getD 0 nd0).kind=0
 walk:walkL (walkF l 19) l.length (l.getD 0 nd0).kids 1=((l.length:Int),true)
 kids:∀ j:Nat,j<l.length→∀ k∈(l.getD j nd0).kids,(j:Int)<k∧k<l.length
 cover:∀ j:Nat,0<j→j<l.length→∃ i:Nat,i<j∧(j:Int)∈(l.getD i nd0).kids
 lens:∀ j:Nat,j<l.length→LenOk (l.getD j nd0)
 kind:∀ j:Nat,j<l.length→kidsOk l (l.getD j nd0)
theorem qpc {l:List Nd} (h:qfx l=true):Tree l:=by
 have ht:=jqp h
 unfold qfx at h
 simp only [zf,zah,xq,decide_eq_false_iff_not,bne_eq_false_iff_eq,xu] at h
 obtain ⟨⟨⟨⟨h1,h2⟩,h3⟩,h4,h5⟩,h6⟩:=h
 have hw:walkF l 20 0=((l.length:Int),true):=by rw [← h5];exact Prod.ext rfl h4
 refine ⟨ht.len,ht.root,?_,ht.kids,fun j hj hl=>?_,fun j hj=>jqs (ht.node j hj),fun j hj=>jqq (ht.node j hj)⟩
 ·rw [walkF] at hw;exact hw
 ·obtain ⟨i,_,h7,h8⟩:=jdg l 20 0 _ (xb _) hw j (by omega) (by omega)
  exact ⟨i,h7,h8⟩
theorem Tree.parent {l:List Nd} (h:Tree l) {j:Nat} (h0:0<j) (hj:j<l.length):∃ i q:Nat,i<j∧q<(l.getD i nd0).kids.length∧(l.getD i nd0).kids.getD q 0=(j:Int)∧kidK l (l.getD i nd0) q=(l.getD j nd0).kind:=by
 obtain ⟨i,hi,hm⟩:=h.cover j h0 hj
 obtain ⟨q,hq,he⟩:=List.mem_iff_getElem.1 hm
 have hg:(l.getD i nd0).kids.getD q 0=(j:Int):=by rw [List.getD_eq_getElem?_getD,ze hq];exact he
 exact ⟨i,q,hi,hq,hg,by rw [kidK,hg,zr]⟩
theorem Tree.item {l:List Nd} (h:Tree l) {j:Nat} (h0:0<j) (hj:j<l.length) :
  (itemF l j∈(l.getD 0 nd0).kids∧itemF l j≤j)∧(∀ c∈(l.getD j nd0).kids,itemF l c=itemF l j)∧((j:Int)∈(l.getD 0 nd0).kids→itemF l j=j):=
 jdh l 19 _ 1 _ 0 (by omega) h.walk j (by omega) (by omega)
theorem Tree.top {l:List Nd} (h:Tree l) {j:Nat} (hj:j<l.length) (hk:(l.getD j nd0).kind=1∨(l.getD j nd0).kind=3∨(l.getD j nd0).kind=4∨(l.getD j nd0).kind=5):(j:Int)∈(l.getD 0 nd0).kids:=by
 have h0:0<j:=by
  rcases zak j with rfl|h0
  ·have:=h.root;omega
  ·exact h0
 obtain ⟨i,q,hi,hq,hg,hkk⟩:=h.parent h0 hj
 have hko:=h.kind i (by omega) q hq
 have hlo:=(h.lens i (by omega)).kind
 have:i=0:=by
  rcases zak i with rfl|hi0
  ·rfl
  ·exfalso
   by_cases h00:(l.getD i nd0).kind=0
   ·obtain ⟨i',q',_,hq',_,hkk'⟩:=h.parent hi0 (by omega)
    have hko':=h.kind i' (by omega) q' hq'
    by_cases e0:(l.getD i' nd0).kind=0
    ·omega
    ·by_cases e3:(l.getD i' nd0).kind=3
     ·have:=hko'.2.1 e3
      by_cases hv:q'<varsN l (l.getD i' nd0)
      ·have:=this.1 hv;omega
      ·have:=this.2 (by omega);omega
     ·have:=hko'.2.2.1 e0 e3;omega
   ·by_cases h3:(l.getD i nd0).kind=3
    ·have:=hko.2.1 h3
     by_cases hv:q<varsN l (l.getD i nd0)
     ·have:=this.1 hv;omega
     ·have:=this.2 (by omega);omega
    ·have:=hko.2.2.1 h00 h3;omega
 subst this
 rw [← hg]
 exact qk _ _ _ hq
theorem Tree.zero {l:List Nd} (h:Tree l) {j:Nat} (hj:j<l.length) (hk:(l.getD j nd0).kind=0):j=0:=by
 rcases zak j with rfl|h0
 ·rfl
 ·exfalso
  obtain ⟨i,q,hi,hq,hg,hkk⟩:=h.parent h0 hj
  have hko:=h.kind i (by omega) q hq
  by_cases e0:(l.getD i nd0).kind=0
  ·have:=hko.1 e0;omega
  ·by_cases e3:(l.getD i nd0).kind=3
   ·have:=hko.2.1 e3
    by_cases hv:q<varsN l (l.getD i nd0)
    ·have:=this.1 hv;omega
    ·have:=this.2 (by omega);omega
   ·have:=hko.2.2.1 e0 e3;omega
theorem Tree.var {l:List Nd} (h:Tree l) {j:Nat} (hj:j<l.length) (hk:(l.getD j nd0).kind=2) :
  (j:Int)∈(l.getD 0 nd0).kids∨∃ i:Nat,i<j∧(l.getD i nd0).kind=3∧(i:Int)∈(l.getD 0 nd0).kids∧itemF l j=i∧1≤varsN l (l.getD i nd0):=by
 have h0:0<j:=by
  rcases zak j with rfl|h0
  ·have:=h.root;omega
  ·exact h0
 obtain ⟨i,q,hi,hq,hg,hkk⟩:=h.parent h0 hj
 have hko:=h.kind i (by omega) q hq
 by_cases e0:(l.getD i nd0).kind=0
 ·left
  have:=h.zero (by omega) e0
  subst this
  rw [← hg]
  exact qk _ _ _ hq
 ·by_cases e3:(l.getD i nd0).kind=3
  ·right
   have hi0:0<i:=by
    rcases zak i with rfl|h0
    ·have:=h.root;omega
    ·exact h0
   have hit:=h.item hi0 (by omega)
   have htop:=h.top (j:=i) (by omega) (by omega)
   refine ⟨i,hi,e3,htop,?_,?_⟩
   ·rw [hit.2.1 j (by rw [← hg];exact qk _ _ _ hq),hit.2.2 htop]
   ·have:=hko.2.1 e3
    by_cases hv:q<varsN l (l.getD i nd0)
    ·omega
    ·have:=this.2 (by omega);omega
  ·have:=hko.2.2.1 e0 e3;omega
theorem jdi (l:List Nd) (w:Int→Int × Bool) (Q:Nat→Prop)
  (hw:∀ a n,0≤a→w a=(n,true)→a<n∧∀ j:Nat,a≤j→(j:Int)<n→Q j) :
  ∀ (ks:List Int) (next n:Int),0≤next→walkL w l.length ks next=(n,true)→∀ j:Nat,next≤j→(j:Int)<n→Q j
 | [],next,n,_,h,j,h1,h2=>by
  simp only [walkL,Prod.mk.injEq,and_true] at h
  omega
 | k::ks,next,n,h0,h,j,h1,h2=>by
  rw [walkL] at h
  split at h
  ·simp at h
  ·rename_i hk
   split at h
   ·simp at h
   ·rename_i hb
    have hwn:w next=((w next).1,true):=by
     cases hx:w next with
     | mk a b=>rw [hx] at hb;cases b <;> simp_all
    obtain ⟨hg1,hg2⟩:=hw next _ h0 hwn
    by_cases hj:(j:Int)<(w next).1
    ·exact hg2 j h1 hj
    ·exact jdi l w Q hw ks (w next).1 n (by omega) h j (by omega) h2
theorem qwm (l:List Nd):∀ (f:Nat) (a n:Int),0≤a→walkF l f a=(n,true)→∀ j:Nat,a≤j→(j:Int)<n→∃ g n',g≤f∧walkF l g j=(n',true)
 | 0,a,n,_,h=>by simp [walkF] at h
 | f+1,a,n,h0,h=>by
  intro j h1 h2
  by_cases hj:(j:Int)=a
  ·exact ⟨f+1,n,zl _,by rw [hj];exact h⟩
  ·rw [walkF] at h
   obtain ⟨g,n',hg,hw⟩:=jdi l (walkF l f) (fun j=>∃ g n',g≤f∧walkF l g j=(n',true)) (fun a n ha h=>⟨(qaj l f a n ha h).1.1,qwm l f a n ha h⟩) _ _ n (by omega) h j (by omega) h2
   exact ⟨g,n',by omega,hw⟩
theorem qsw:∀ (ks:List Int) (a b:Int),ks.Pairwise (· < ·)→(∀ k∈ks,a≤k∧k<b)→(ks.length:Int)≤max 0 (b - a)
 | [],_,_,_,_=>by simp;omega
 | k::ks,a,b,hs,hk=>by
  cases hs with
  | cons h1 h2=>
   have hka:=hk k (zp ..)
   have:=qsw ks (k+1) b h2 fun q hq=>⟨by have:=h1 q hq;omega,(hk q (zq _ hq)).2⟩
   simp only [xg]
   omega
theorem Tree.kidsLen {l:List Nd} (h:Tree l) {j:Nat} (hj:j<l.length):(l.getD j nd0).kids.length≤800∧(l.getD j nd0).kids.Pairwise (· < ·):=by
 have hw:walkF l 20 0=((l.length:Int),true):=by rw [walkF];exact h.walk
 obtain ⟨g,n',_,hg⟩:=qwm l 20 0 _ (xb _) hw j (by omega) (by omega)
 have hlen:=h.len
 cases g with
 | zero=>simp [walkF] at hg
 | succ g=>
  rw [walkF,zr] at hg
  have hs:=qsv l g _ _ _ (by omega) hg
  have:=qsw _ 0 l.length hs fun k hk=>by have:=h.kids j hj k hk;omega
  exact ⟨by omega,hs⟩
/-! Which names are there. -/
theorem qwn (l:List Nd) (item kind:Int) (i:Nat):qfz l item kind (i+1)=qpa l item kind (qfz l item kind i) i:=by
 unfold qfz
 rw [zbj,xx];rfl
theorem qwo (l:List Nd) (item kind:Int) (s:List UInt8):∀ i,inF (qfz l item kind i) s=true→∃ j,j<i∧(l.getD j nd0).kind=kind∧(itemF l j=j∨itemF l j=item)
 | 0,h=>by simp [qfz,inF] at h
 | i+1,h=>by
  rw [qwn] at h
  have old:inF (qfz l item kind i) s=true→∃ j,j<i+1∧(l.getD j nd0).kind=kind∧(itemF l j=j∨itemF l j=item):=fun h=>by
   obtain ⟨j,h1,h2⟩:=qwo l item kind s i h
   exact ⟨j,by omega,h2⟩
  unfold qpa at h
  split at h
  ·rename_i hk
   split at h
   ·rename_i hi
    simp only [xr,xu] at hi
    exact ⟨i,by omega,hk,hi⟩
   ·exact old h
  ·exact old h
theorem qpd (l:List Nd) (item kind:Int):∀ i,(qfz l item kind i).length≤i
 | 0=>by simp [qfz]
 | i+1=>by
  rw [qwn]
  have:=qpd l item kind i
  unfold qpa
  (repeat' split) <;> first|omega|(simp;omega)
end Go.St
