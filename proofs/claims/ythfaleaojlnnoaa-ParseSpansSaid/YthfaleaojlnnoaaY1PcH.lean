/- Contract of the program's parser: is a tree too great? -/
import Derived.Test.YthfaleaojlnnoaaY1PcF
import Derived.Test.YthfaleaojlnnoaaY134
import Derived.Test.YthfaleaojlnnoaaY12
set_option linter.unusedSimpArgs false
set_option linter.unusedVariables false
namespace Go.Proofs.Ythfaleaojlnnoaa
open List renaming getD_eq_getElem?_getD → zd
open Go Go.Sx Go.RowKit Go.St Pa
set_option maxRecDepth 100000
set_option maxHeartbeats 8000000
def qbu (L:List Nd):Nat→(Nat→Int)
 | 0=>fun j=>if j=0 then 1 else 0
 | i+1=>setK i (L.getD i nd0).kids (qbu L i)
theorem jaa (i:Nat) (k:Int):∀ (ks:List Int) (D:Nat→Int),setK i (ks++[k]) D=setD (setK i ks D) k.toNat (setK i ks D i+1)
 | [],D=>rfl
 | x::ks,D=>by
  rw [zab,setK,jaa i k ks,setK]
theorem jlx {l:List Int} {q:Nat} (h:q<l.length):l.take (q+1)=l.take q++[l.getD q 0]:=by
 rw [List.take_add_one,zd,ze h];rfl
theorem jly (L:List Nd):∀ (m i:Nat),qcu L (m+1) i (qbu L i)=if i<L.length then (if 20<qbu L i i then (12,(L.getD i nd0).at_) else qcu L m (i+1) (qbu L (i+1))) else (0,0):=fun m i=>by rw [qcu];rfl
theorem jlz (L:List Nd) (h0:0<L.length) (hl:L.length≤100000) (hk:∀ j,j<L.length→∀ k∈(L.getD j nd0).kids,(j:Int)<k∧k<L.length) (hkl:∀ j,j<L.length→(L.getD j nd0).kids.length≤100000):Con Try.prog 22 [qgx L] (flt (qes L).1 (qes L).2):=by
 refine zK {owns:=[(14,(3,1))]} 300 Try.func22 (fun c0 rdb=>?_)
 (repeat' ((conv=>whnf);first|refine zA ?_|refine zO ?_|refine Ob.auto ?_|(refine Ob.intro (by (exact qu (by omega) (by omega))) ?_)|refine zD 300 ?_|(apply zB <;> intro hb <;> (try simp [-zd] at hb) <;> try (exfalso;omega))|refine Ob.intro ?_ ?_))
 ·have e:qes L=(12,0):=zb (by omega)
  rw [e]
  exact Le.refl _
 ·have hb8:((tab Try.prog 3).bytes:Int)=8:=by decide +kernel
  have:((L.length:Nat):Int) * ((tab Try.prog 3).bytes:Int)≤140737488355328:=by rw [hb8];omega
  exact ⟨by omega,by omega,by omega,this⟩
 have e0:qes L=qcu L L.length 0 (qbu L 0):=za (by omega)
 rw [e0]
 generalize hZ:qcu L L.length 0 (qbu L 0)=Z
 ((conv=>whnf);refine qdx (fun _=>rfl) 300 1 (fun i:Nat=>[(19,iv i)]) (fun i=>[(1,.row [] 3 1 0 L.length (fun j=>[iv (qbu L i j)]))]) (fun i=>i≤L.length∧qcu L (L.length - i) i (qbu L i)=Z∧∀ j,0≤qbu L i j∧qbu L i j≤21) (fun i=>L.length - i) (0) (⟨xt _,hZ,fun j=>by unfold qbu;split <;> omega⟩) qa ⟨⟨⟨rfl,rfl,rfl⟩,rfl,by simp,fun j _=>if h:j=0 then (by subst h;exact ⟨Le.refl _,trivial⟩) else LeL.of_eq ((za (show ¬ j=Int.toNat 0 from h)).trans (by show _=[iv (if j=0 then 1 else 0)];rw [za h];rfl))⟩,trivial⟩ (fun _=>rfl) (by kernel_rfl) ?_;(conv=>whnf))
 rintro i ⟨hi,hj,hD⟩
 by_cases hil:i<L.length
 ·obtain ⟨m,hm⟩:∃ m,L.length - i=m+1:=⟨L.length - i - 1,by omega⟩
  rw [hm,jly,zb hil] at hj
  have hm':L.length - (i+1)=m:=by omega
  have hDi:=hD i
  (repeat' ((conv=>whnf);first|refine zA ?_|refine zO ?_|refine Ob.auto ?_|refine zI ?_|refine zD 300 ?_|(apply zB <;> intro hb <;> (try simp [-zd] at hb) <;> try (exfalso;omega))|refine Ob.intro ?_ ?_))
  ·rw [zb (by omega)] at hj
   subst hj
   exact Le.refl _
  ·rw [za (by omega)] at hj
   have hne:∀ k∈(L.getD i nd0).kids,k.toNat≠i:=fun k hk'=>by have:=hk i hil k hk';omega
   have hlen:=hkl i hil
   ((conv=>whnf);refine qdx (fun _=>rfl) 300 3 (fun q:Nat=>[(35,iv q),(17,qgx L),(18,iv L.length)]) (fun q=>[(1,.row [] 3 1 0 L.length (fun j=>[iv (setK i ((L.getD i nd0).kids.take q) (qbu L i) j)]))]) (fun q=>q≤(L.getD i nd0).kids.length∧∀ j,0≤setK i ((L.getD i nd0).kids.take q) (qbu L i) j∧setK i ((L.getD i nd0).kids.take q) (qbu L i) j≤21) (fun q=>(L.getD i nd0).kids.length - q) (0) (⟨xt _,hD⟩) qa qa (fun _=>rfl) (by kernel_rfl) ?_;(conv=>whnf))
   rintro q ⟨hq,hDq⟩
   by_cases hql:q<(L.getD i nd0).kids.length
   ·have hkq:=hk i hil _ (qoe (L.getD i nd0).kids q 0 hql)
    have hoi:setK i ((L.getD i nd0).kids.take q) (qbu L i) i=qbu L i i:=qph _ _ _ (fun k hk'=>hne k (List.mem_of_mem_take hk'))
    have hts:(L.getD i nd0).kids.take (q+1)=(L.getD i nd0).kids.take q++[(L.getD i nd0).kids.getD q 0]:=jlx hql
    have hDq2:∀ j,setK i ((L.getD i nd0).kids.take (q+1)) (qbu L i) j=if j=((L.getD i nd0).kids.getD q 0).toNat then qbu L i i+1 else setK i ((L.getD i nd0).kids.take q) (qbu L i) j:=fun j=>by
     rw [hts,jaa]
     unfold setD
     rw [hoi]
    rw [← hoi] at hDi
    (repeat' ((conv=>whnf);first|refine zA ?_|refine zO ?_|refine Ob.auto ?_|(refine Ob.intro (by (first|exact ⟨by omega,by omega⟩|exact qu (by omega) (by omega))) ?_)|refine zD 300 ?_|(apply zB <;> intro hb <;> (try simp [-zd] at hb) <;> try (exfalso;omega))|refine Ob.intro ?_ ?_))
    ·show inR .i64 (setK i ((L.getD i nd0).kids.take q) (qbu L i) i+1)
     exact qu (by omega) (by omega)
    ·refine ⟨⟨rfl,rfl⟩,(show 0≤(L.getD i nd0).kids.getD q 0 by omega),(show (L.getD i nd0).kids.getD q 0<(((L.length:Int).toNat:Nat):Int) by omega)⟩
    ((conv=>whnf);refine ⟨q+1,⟨hql,fun j=>by rw [hDq2];have:=hDq j;split <;> omega⟩,⟨qa,⟨⟨⟨rfl,rfl,rfl⟩,rfl,rfl,fun j _=>LeL.of_eq (by
     show _=[iv (setK i ((L.getD i nd0).kids.take (q+1)) (qbu L i) j)]
     rw [hDq2]
     by_cases hjk:j=((L.getD i nd0).kids.getD q 0).toNat
     ·rw [zb hjk]
      refine (zb hjk).trans ?_
      rw [← hoi];rfl
     ·rw [za hjk]
      exact za hjk)⟩,trivial⟩⟩,⟨qa,qa⟩,?_⟩;(first|omega|(dsimp only;omega)|skip))
   ·have hq':q=(L.getD i nd0).kids.length:=by omega
    subst hq'
    (repeat' ((conv=>whnf);first|refine zA ?_|refine zO ?_|refine Ob.auto ?_|(refine Ob.intro (by (exact qu (by omega) (by omega))) ?_)|refine zD 300 ?_|(apply zB <;> intro hb <;> (try simp [-zd] at hb) <;> try (exfalso;omega))|refine Ob.intro ?_ ?_))
    ((conv=>whnf);refine ⟨i+1,⟨hil,by rw [hm'];exact hj,fun j=>by have:=hDq j;rw [zaj] at this;exact this⟩,⟨qa,⟨⟨⟨rfl,rfl,rfl⟩,rfl,rfl,fun j _=>LeL.of_eq (by
     show [iv (setK i ((L.getD i nd0).kids.take (L.getD i nd0).kids.length) (qbu L i) j)]=_
     rw [zaj];rfl)⟩,trivial⟩⟩,⟨qa,qa⟩,?_⟩;(first|omega|(dsimp only;omega)|skip))
 ·have hi':i=L.length:=by omega
  subst hi'
  rw [xx,qcu] at hj
  subst hj
  (repeat' ((conv=>whnf);first|refine zA ?_|refine zO ?_|refine Ob.auto ?_|refine zD 300 ?_|(apply zB <;> intro hb <;> (try simp [-zd] at hb) <;> try (exfalso;omega))|refine Ob.intro ?_ ?_))
  exact Le.refl _
end Go.Proofs.Ythfaleaojlnnoaa
