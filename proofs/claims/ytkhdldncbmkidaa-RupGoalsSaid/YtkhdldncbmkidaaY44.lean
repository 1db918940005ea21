/- Some texts of the library, one behind the other. -/
import Derived.Lib.SlicesCompact
import Derived.Sort.Statements
import Derived.Test.YtkhdldncbmkidaaY43
import Derived.Test.YtkhdldncbmkidaaY42
import Derived.Test.YtkhdldncbmkidaaChecked
set_option linter.unusedSimpArgs false
set_option linter.unusedVariables false
section
namespace Go.Cl
open List renaming getD_eq_getElem?_getD → zd
open Go Go.Sort
def absI (l:Int):Int:=if l<0 then -l else l
def cmp2 (a b:Int):Int:=if a<b then -1 else if b<a then 1 else 0
def cmpL (a b:Int):Int:=if cmp2 (absI a) (absI b)≠0 then cmp2 (absI a) (absI b) else cmp2 b a
def ltL (a b:Int):Prop:=absI a<absI b∨(absI a=absI b∧b<a)
theorem qky (a b:Int):cmp2 a b<0↔a<b:=by
 unfold cmp2
 by_cases h:a<b
 ·rw [za h];exact ⟨fun _=>h,fun _=>by decide⟩
 ·rw [ze h]
  by_cases h':b<a
  ·rw [za h'];exact ⟨fun k=>absurd k (by decide),fun k=>absurd k h⟩
  ·rw [ze h'];exact ⟨fun k=>absurd k (by decide),fun k=>absurd k h⟩
theorem qkz (a b:Int):cmp2 a b=0↔a=b:=by
 unfold cmp2
 by_cases h:a<b
 ·rw [za h];exact ⟨fun k=>absurd k (by decide),fun k=>by omega⟩
 ·rw [ze h]
  by_cases h':b<a
  ·rw [za h'];exact ⟨fun k=>absurd k (by decide),fun k=>by omega⟩
  ·rw [ze h'];exact ⟨fun _=>by omega,fun _=>rfl⟩
theorem jdz (a b:Int):cmpL a b<0↔ltL a b:=by
 unfold cmpL ltL
 by_cases h:absI a=absI b
 ·rw [ze (fun k=>k ((qkz _ _).2 h)),qky]
  omega
 ·rw [za (fun k=>h ((qkz _ _).1 k)),qky]
  omega
theorem qov (a:Int):¬ ltL a a:=by unfold ltL;omega
theorem quc {a b c:Int} (h:ltL a b) (k:ltL b c):ltL a c:=by unfold ltL at *;omega
theorem qow (a b:Int):ltL a b∨a=b∨ltL b a:=by unfold ltL;omega
def ltB (x y:Int):Bool:=decide (cmpL x y<0)
theorem qij (a b:Int):ltB a b=true↔ltL a b:=by
 unfold ltB
 rw [xm]
 exact jdz a b
theorem qfl (a b:Int):ltB a b=false↔¬ ltL a b:=by
 rw [← qij];simp
theorem swoL:SWO ltB where
 irrefl x:=(qfl x x).2 (qov x)
 trans x y z h k:=(qij x z).2 (quc ((qij x y).1 h) ((qij y z).1 k))
 ntrans x y z h k:=(qfl x z).2 (by
  have h:=(qfl x y).1 h
  have k:=(qfl y z).1 k
  unfold ltL at *;omega)
def qap (c:List Int):List Int:=c.mergeSort fun x y=>!ltB y x
def normL (c:List Int):List Int:=Lib.compact (qap c)
theorem jea (c:List Int):(qap c).Pairwise fun x y=>¬ ltL y x:=by
 have h:=List.pairwise_mergeSort (le:=fun x y=>!ltB y x) (fun a b c h k=>by
  simp only [xn] at h k ⊢
  exact swoL.ntrans c b a k h) (fun a b=>by
  simp only [Bool.or_eq_true,xn]
  rcases qow a b with h|h|h
  ·left;rw [qfl];unfold ltL at *;omega
  ·left;subst h;exact swoL.irrefl a
  ·right;rw [qfl];unfold ltL at *;omega) c
 exact h.imp fun {a b} hab=>by
  simp only [xn] at hab
  exact (qfl b a).1 hab
theorem jeb (zs:List Int) (j:Nat) (hj:j<zs.length):Lib.keeps zs.toArray j=true↔(j=0∨zs.getD j 0≠zs.getD (j - 1) 0):=by
 have e:∀ i,i<zs.length→zs.toArray[i]! = zs.getD i 0:=fun i hi=>by
  rw [getElem!_pos _ _ (by simpa using hi),zd,zb hi];rfl
 unfold Lib.keeps
 rw [xm,e j hj,e (j - 1) (by omega)]
theorem qla (zs:List Int):Lib.compact zs=((List.range zs.length).filter fun j=>decide (j=0∨zs.getD j 0≠zs.getD (j - 1) 0)).map fun j=>zs.getD j 0:=by
 have e:∀ i,i<zs.length→zs.toArray[i]! = zs.getD i 0:=fun i hi=>by
  rw [getElem!_pos _ _ (by simpa using hi),zd,zb hi];rfl
 unfold Lib.compact Lib.compactUpTo
 have h1:(List.range zs.length).filter (Lib.keeps zs.toArray)=(List.range zs.length).filter fun j=>decide (j=0∨zs.getD j 0≠zs.getD (j - 1) 0):=
  List.filter_congr fun j hj=>by
   have hj:=List.mem_range.1 hj
   have:=jeb zs j hj
   by_cases h:Lib.keeps zs.toArray j=true
   ·rw [h,zam (this.1 h)]
   ·rw [Bool.eq_false_iff.2 h,decide_eq_false (fun g=>h (this.2 g))]
 rw [h1]
 exact xh fun j hj=>e j (List.mem_range.1 (List.mem_filter.1 hj).1)
theorem qud {zs:List Int} (hs:zs.Pairwise fun x y=>¬ ltL y x) {i j:Nat} (hij:i≤j) (hj:j<zs.length):¬ ltL (zs.getD j 0) (zs.getD i 0):=by
 rcases Nat.lt_or_eq_of_le hij with h|h
 ·have:=List.pairwise_iff_getElem.1 hs i j (by omega) hj h
  rw [zd,zd,zb hj,zb (by omega:i<zs.length)]
  exact this
 ·subst h;exact qov _
theorem jec {zs:List Int} (hs:zs.Pairwise fun x y=>¬ ltL y x):(Lib.compact zs).Pairwise ltL:=by
 rw [qla,List.pairwise_map]
 have h0:(List.range zs.length).Pairwise (· < ·):=List.pairwise_lt_range
 have h1:=h0.filter fun j=>decide (j=0∨zs.getD j 0≠zs.getD (j - 1) 0)
 refine h1.imp_of_mem fun {i j} hi hj hij=>?_
 obtain ⟨hj1,hj2⟩:=List.mem_filter.1 hj
 have hjl:=List.mem_range.1 hj1
 rw [xm] at hj2
 have a1:=qud hs (i:=i) (j:=j - 1) (by omega) (by omega)
 have a2:=qud hs (i:=j - 1) (j:=j) (by omega) hjl
 have hne:zs.getD j 0≠zs.getD (j - 1) 0:=by
  rcases hj2 with h|h
  ·omega
  ·exact h
 rcases qow (zs.getD (j - 1) 0) (zs.getD j 0) with h|h|h
 ·rcases qow (zs.getD i 0) (zs.getD (j - 1) 0) with k|k|k
  ·exact quc k h
  ·rw [k];exact h
  ·exact absurd k a1
 ·exact absurd h.symm hne
 ·exact absurd h a2
theorem jed {zs:List Int} {x:Int}:x∈Lib.compact zs↔x∈zs:=by
 rw [qla]
 constructor
 ·intro h
  obtain ⟨j,hj,rfl⟩:=List.mem_map.1 h
  have hjl:=List.mem_range.1 (List.mem_filter.1 hj).1
  rw [zd,zb hjl]
  exact zar hjl
 ·intro h
  obtain ⟨i,hi,rfl⟩:=List.mem_iff_getElem.1 h
  have key:∀ i,i<zs.length→∃ j,j<zs.length∧(j=0∨zs.getD j 0≠zs.getD (j - 1) 0)∧zs.getD j 0=zs.getD i 0:=by
   intro i
   induction i with
   | zero=>intro h;exact ⟨0,h,.inl rfl,rfl⟩
   | succ i ih=>
    intro h
    by_cases e:zs.getD (i+1) 0=zs.getD i 0
    ·obtain ⟨j,h1,h2,h3⟩:=ih (by omega)
     exact ⟨j,h1,h2,h3.trans e.symm⟩
    ·exact ⟨i+1,h,.inr e,rfl⟩
  obtain ⟨j,h1,h2,h3⟩:=key i hi
  refine List.mem_map.2 ⟨j,List.mem_filter.2 ⟨List.mem_range.2 h1,zam h2⟩,?_⟩
  rw [h3,zd,zb hi]
  rfl
theorem qox (c:List Int):(normL c).Pairwise ltL:=jec (jea c)
theorem norm_mem {c:List Int} {x:Int}:x∈normL c↔x∈c:=by
 unfold normL
 rw [jed]
 unfold qap
 exact List.mem_mergeSort
theorem qfm (c:List Int):(normL c).length≤c.length:=by
 unfold normL
 rw [qla,xp]
 refine zt (zbg ..) ?_
 simp [qap]
def qu (r:List Int):Bool:=(List.range r.length).any fun i=>decide (1≤i) && r.getD i 0 == -(r.getD (i - 1) 0)
theorem qik {l:List Int} {i:Nat} (h:i<l.length):l.getD i 0=l[i]:=by
 rw [zd,zb h];rfl
theorem que {r:List Int} (hs:r.Pairwise ltL) {v:Int} (hv:0<v) (h1:v∈r) (h2:-v∈r):qu r=true:=by
 obtain ⟨i,hi,e1⟩:=List.mem_iff_getElem.1 h1
 obtain ⟨j,hj,e2⟩:=List.mem_iff_getElem.1 h2
 have hlt:=List.pairwise_iff_getElem.1 hs
 have hij:i<j:=by
  rcases Nat.lt_trichotomy i j with h|h|h
  ·exact h
  ·subst h;rw [e1] at e2;omega
  ·have:=hlt j i hj hi h
   rw [e1,e2] at this
   unfold ltL absI at this;omega
 have hi1:i+1=j:=by
  rcases Nat.lt_or_eq_of_le (show i+1≤j by omega) with h|h
  ·have a1:=hlt i (i+1) hi (by omega) (by omega)
   have a2:=hlt (i+1) j (by omega) hj h
   rw [e1] at a1
   rw [e2] at a2
   unfold ltL absI at a1 a2;omega
  ·exact h
 unfold qu
 rw [zay]
 refine ⟨i+1,List.mem_range.2 (by omega),?_⟩
 rw [zh,xm,beq_iff_eq]
 refine ⟨by omega,?_⟩
 rw [qik (by omega),show i+1 - 1=i by omega,qik hi,e1]
 subst hi1
 exact e2
theorem qlb {c:List Int} (h0:∀ x∈c,x≠0):qu (normL c)=true↔∃ v,v∈c∧-v∈c:=by
 constructor
 ·intro h
  unfold qu at h
  rw [zay] at h
  obtain ⟨i,hi,h⟩:=h
  rw [zh,xm,beq_iff_eq] at h
  have hi:=List.mem_range.1 hi
  refine ⟨(normL c).getD (i - 1) 0,norm_mem.1 ?_,norm_mem.1 ?_⟩
  ·rw [qik (by omega)];exact zar _
  ·rw [← h.2,qik hi];exact zar _
 ·rintro ⟨v,h1,h2⟩
  have hv:=h0 v h1
  by_cases hp:0<v
  ·exact que (qox c) hp (norm_mem.2 h1) (norm_mem.2 h2)
  ·exact que (qox c) (v:=-v) (by omega) (norm_mem.2 h2) (norm_mem.2 (by rw [Int.neg_neg];exact h1))
def litB (l:Int):Bool:=l != 0 && decide (-100000≤l) && decide (l≤100000)
def rightB (c:List Int):Bool:=c.all litB
theorem qdd (l:Int):litB l=true↔l≠0∧-100000≤l∧l≤100000:=by
 simp [litB,and_assoc]
def jf (n:Int) (c:List Int):Int:=c.foldl (fun n l=>if litB l=true∧n<absI l then absI l else n) n
def qe (cs:List (List Int)):Int:=cs.foldl jf 0
end Go.Cl
end
section
namespace Go.Cl
open Go

end Go.Cl
end
section
namespace Go.Proofs.Ytkhdldncbmkidaa
open List renaming getD_eq_getElem?_getD → zd
open Go Go.Sx Go.RowKit Go.St Go.Cl
set_option maxRecDepth 100000
set_option maxHeartbeats 4000000
def qbh (cs:List (List Int)):AV:=slcL (fun l=>[ints l]) [] 1 cs
theorem jee {α:Type} (q:α→Bool) (l:List α):(l.all q)=!(l.any fun x=>!q x):=by
 induction l with
 | nil=>rfl
 | cons x l ih=>rw [zbm,List.any_cons,ih,Bool.not_or,Bool.not_not]
theorem quf {α:Type} (q:α→Bool) (l:List α):decide (0≤Go.St.idx q l)=l.any q:=by
 unfold Go.St.idx
 cases h:l.findIdx? q with
 | none=>
  rw [List.findIdx?_eq_none_iff] at h
  have:l.any q=false:=by rw [Bool.eq_false_iff];intro h';rw [zay] at h';obtain ⟨x,hx,hq⟩:=h';rw [h x hx] at hq;cases hq
  rw [this];rfl
 | some i=>
  rw [List.findIdx?_eq_some_iff_getElem] at h
  obtain ⟨h1,h2,_⟩:=h
  have:l.any q=true:=by rw [zay];exact ⟨_,zar h1,h2⟩
  rw [this];exact zam (by simp)
theorem qfn (l:Int):Con Try.prog 57 [iv l] (.bool (litB l)):=by
 refine zK {} 300 Try.func57 (fun c0 rdb=>?_)
 (repeat' ((conv=>whnf);first|refine zA ?_|refine zO ?_|refine Ob.auto ?_|refine zD 300 ?_|(apply zB <;> intro hb <;> (try simp [-zd] at hb) <;> try (exfalso;omega))|refine Ob.intro ?_ ?_))
 exact Le.refl _
theorem jef (l:Int) (h:litB l=true):Con Try.prog 48 [iv l] (iv (absI l)):=by
 have h:=(qdd l).1 h
 refine zK {} 300 Try.func48 (fun c0 rdb=>?_)
 (repeat' ((conv=>whnf);first|refine zA ?_|refine zO ?_|refine Ob.auto ?_|refine zI ?_|refine zD 300 ?_|(apply zB <;> intro hb <;> (try simp [-zd] at hb) <;> try (exfalso;omega))|refine Ob.intro ?_ ?_))
 all_goals (refine Le.of_eq (congrArg (AV.int _) ?_);unfold absI;omega)
theorem jeg (l:Int):Con Try.prog 59 [iv l] (.bool (!litB l)):=by
 refine zK {} 300 Try.func59 (fun c0 rdb=>?_)
 (repeat' ((conv=>whnf);first|refine zA ?_|refine zO ?_|refine Ob.auto ?_|refine zC 300 (qfn l) ?_|refine zG 300 (fun hg=>qfn l) ?_|(refine CallY.con (qfn l) (by rfl) leA ?_)|(refine CallZ.con (fun hg=>qfn l) qp (by rfl) ?_)|(refine qv (fun _=>rfl) 300 (qfn l) qd (by (repeat' (first|exact trivial|exact Le.refl _|(refine And.intro ?_ ?_))) <;> fail) (by rfl) (by kernel_rfl) ?_)|(refine qw (fun _=>rfl) 300 (fun hg=>qfn l) (fun hg=>qd) (fun hg=>(by (repeat' (first|exact trivial|exact Le.refl _|exact Le.cnd hg|(refine And.intro ?_ ?_))) <;> fail)) (by rfl) (by kernel_rfl) ?_)|refine zD 300 ?_|(apply zB <;> intro hb <;> (try simp [-zd] at hb) <;> try (exfalso;omega))|refine Ob.intro ?_ ?_))
 exact Le.refl _
end Go.Proofs.Ytkhdldncbmkidaa
end
section
namespace Go.Proofs.Ytkhdldncbmkidaa
open Go Go.Sx Go.RowKit
set_option maxRecDepth 100000
section
variable {H:Type} {enc:TypeId × Value→H}
theorem jeh:Rdr enc Try.prog 22 (fun ys=>∃ l:List (List Int),(l.length≤maxLen∧∀ r∈l,r.length≤maxLen)∧ys=[qbh l]):=
 rdr_slice (en:=fun l=>[ints l]) Try.underlying22 (by kernel_rfl) (by decide) (fun _=>rfl) (rdr_ints.mono fun ys ⟨l,h1,h⟩=>⟨l,h1.1,h⟩)
end
end Go.Proofs.Ytkhdldncbmkidaa
end
