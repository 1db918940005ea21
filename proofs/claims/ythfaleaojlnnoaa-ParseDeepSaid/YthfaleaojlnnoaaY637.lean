/- Some texts of the library, one behind the other. -/
import Derived.Test.YthfaleaojlnnoaaY6PcF
import Derived.Test.YthfaleaojlnnoaaY636
import Derived.Test.YthfaleaojlnnoaaY62
set_option linter.unusedSimpArgs false
set_option linter.unusedVariables false
section
namespace Go.Proofs.Ythfaleaojlnnoaa
open List renaming getD_eq_getElem?_getD → zd
open Go Go.Sx Go.RowKit Go.St Pa
set_option maxRecDepth 100000
set_option maxHeartbeats 8000000
def qcr (L:List Nd):Nat→(Nat→Int)
 | 0=>fun j=>if j=0 then 1 else 0
 | i+1=>setK i (L.getD i nd0).kids (qcr L i)
theorem jcv (i:Nat) (k:Int):∀ (ks:List Int) (D:Nat→Int),setK i (ks++[k]) D=setD (setK i ks D) k.toNat (setK i ks D i+1)
 | [],D=>rfl
 | x::ks,D=>by
  rw [xw,setK,jcv i k ks,setK]
theorem jpo {l:List Int} {q:Nat} (h:q<l.length):l.take (q+1)=l.take q++[l.getD q 0]:=by
 rw [List.take_add_one,zd,zf h];rfl
theorem jpp (L:List Nd):∀ (m i:Nat),qds L (m+1) i (qcr L i)=if i<L.length then (if 20<qcr L i i then (12,(L.getD i nd0).at_) else qds L m (i+1) (qcr L (i+1))) else (0,0):=fun m i=>by rw [qds];rfl
theorem jpq (L:List Nd) (h0:0<L.length) (hl:L.length≤100000) (hk:∀ j,j<L.length→∀ k∈(L.getD j nd0).kids,(j:Int)<k∧k<L.length) (hkl:∀ j,j<L.length→(L.getD j nd0).kids.length≤100000):Con Try.prog 22 [qdm L] (flt (qfx L).1 (qfx L).2):=by
 refine zK {owns:=[(14,(3,1))]} 300 Try.func22 (fun c0 rdb=>?_)
 (repeat' ((conv=>whnf);first|refine zA ?_|refine zO ?_|refine Ob.auto ?_|(refine Ob.intro (by (exact qx (by omega) (by omega))) ?_)|refine zD 300 ?_|(apply zB <;> intro hb <;> (try simp [-zd] at hb) <;> try (exfalso;omega))|refine Ob.intro ?_ ?_))
 ·have e:qfx L=(12,0):=zb (by omega)
  rw [e]
  exact Le.refl _
 ·have hb8:((tab Try.prog 3).bytes:Int)=8:=by decide +kernel
  have:((L.length:Nat):Int) * ((tab Try.prog 3).bytes:Int)≤140737488355328:=by rw [hb8];omega
  exact ⟨by omega,by omega,by omega,this⟩
 have e0:qfx L=qds L L.length 0 (qcr L 0):=za (by omega)
 rw [e0]
 generalize hZ:qds L L.length 0 (qcr L 0)=Z
 ((conv=>whnf);refine qag (fun _=>rfl) 300 1 (fun i:Nat=>[(19,iv i)]) (fun i=>[(1,.row [] 3 1 0 L.length (fun j=>[iv (qcr L i j)]))]) (fun i=>i≤L.length∧qds L (L.length - i) i (qcr L i)=Z∧∀ j,0≤qcr L i j∧qcr L i j≤21) (fun i=>L.length - i) (0) (⟨xa _,hZ,fun j=>by unfold qcr;split <;> omega⟩) qa ⟨⟨⟨rfl,rfl,rfl⟩,rfl,by simp,fun j _=>if h:j=0 then (by subst h;exact ⟨Le.refl _,trivial⟩) else LeL.of_eq ((za (show ¬ j=Int.toNat 0 from h)).trans (by show _=[iv (if j=0 then 1 else 0)];rw [za h];rfl))⟩,trivial⟩ (fun _=>rfl) (by kernel_rfl) ?_;(conv=>whnf))
 rintro i ⟨hi,hj,hD⟩
 by_cases hil:i<L.length
 ·obtain ⟨m,hm⟩:∃ m,L.length - i=m+1:=⟨L.length - i - 1,by omega⟩
  rw [hm,jpp,zb hil] at hj
  have hm':L.length - (i+1)=m:=by omega
  have hDi:=hD i
  (repeat' ((conv=>whnf);first|refine zA ?_|refine zO ?_|refine Ob.auto ?_|refine zI ?_|refine zD 300 ?_|(apply zB <;> intro hb <;> (try simp [-zd] at hb) <;> try (exfalso;omega))|refine Ob.intro ?_ ?_))
  ·rw [zb (by omega)] at hj
   subst hj
   exact Le.refl _
  ·rw [za (by omega)] at hj
   have hne:∀ k∈(L.getD i nd0).kids,k.toNat≠i:=fun k hk'=>by have:=hk i hil k hk';omega
   have hlen:=hkl i hil
   ((conv=>whnf);refine qag (fun _=>rfl) 300 3 (fun q:Nat=>[(35,iv q),(17,qdm L),(18,iv L.length)]) (fun q=>[(1,.row [] 3 1 0 L.length (fun j=>[iv (setK i ((L.getD i nd0).kids.take q) (qcr L i) j)]))]) (fun q=>q≤(L.getD i nd0).kids.length∧∀ j,0≤setK i ((L.getD i nd0).kids.take q) (qcr L i) j∧setK i ((L.getD i nd0).kids.take q) (qcr L i) j≤21) (fun q=>(L.getD i nd0).kids.length - q) (0) (⟨xa _,hD⟩) qa qa (fun _=>rfl) (by kernel_rfl) ?_;(conv=>whnf))
   rintro q ⟨hq,hDq⟩
   by_cases hql:q<(L.getD i nd0).kids.length
   ·have hkq:=hk i hil _ (qzo (L.getD i nd0).kids q 0 hql)
    have hoi:setK i ((L.getD i nd0).kids.take q) (qcr L i) i=qcr L i i:=qrg _ _ _ (fun k hk'=>hne k (List.mem_of_mem_take hk'))
    have hts:(L.getD i nd0).kids.take (q+1)=(L.getD i nd0).kids.take q++[(L.getD i nd0).kids.getD q 0]:=jpo hql
    have hDq2:∀ j,setK i ((L.getD i nd0).kids.take (q+1)) (qcr L i) j=if j=((L.getD i nd0).kids.getD q 0).toNat then qcr L i i+1 else setK i ((L.getD i nd0).kids.take q) (qcr L i) j:=fun j=>by
     rw [hts,jcv]
     unfold setD
     rw [hoi]
    rw [← hoi] at hDi
    (repeat' ((conv=>whnf);first|refine zA ?_|refine zO ?_|refine Ob.auto ?_|(refine Ob.intro (by (first|exact ⟨by omega,by omega⟩|exact qx (by omega) (by omega))) ?_)|refine zD 300 ?_|(apply zB <;> intro hb <;> (try simp [-zd] at hb) <;> try (exfalso;omega))|refine Ob.intro ?_ ?_))
    ·show inR .i64 (setK i ((L.getD i nd0).kids.take q) (qcr L i) i+1)
     exact qx (by omega) (by omega)
    ·refine ⟨⟨rfl,rfl⟩,(show 0≤(L.getD i nd0).kids.getD q 0 by omega),(show (L.getD i nd0).kids.getD q 0<(((L.length:Int).toNat:Nat):Int) by omega)⟩
    ((conv=>whnf);refine ⟨q+1,⟨hql,fun j=>by rw [hDq2];have:=hDq j;split <;> omega⟩,⟨qa,⟨⟨⟨rfl,rfl,rfl⟩,rfl,rfl,fun j _=>LeL.of_eq (by
     show _=[iv (setK i ((L.getD i nd0).kids.take (q+1)) (qcr L i) j)]
     rw [hDq2]
     by_cases hjk:j=((L.getD i nd0).kids.getD q 0).toNat
     ·rw [zb hjk]
      refine (zb hjk).trans ?_
      rw [← hoi];rfl
     ·rw [za hjk]
      exact za hjk)⟩,trivial⟩⟩,⟨qa,qa⟩,?_⟩;(first|omega|(dsimp only;omega)|skip))
   ·have hq':q=(L.getD i nd0).kids.length:=by omega
    subst hq'
    (repeat' ((conv=>whnf);first|refine zA ?_|refine zO ?_|refine Ob.auto ?_|(refine Ob.intro (by (exact qx (by omega) (by omega))) ?_)|refine zD 300 ?_|(apply zB <;> intro hb <;> (try simp [-zd] at hb) <;> try (exfalso;omega))|refine Ob.intro ?_ ?_))
    ((conv=>whnf);refine ⟨i+1,⟨hil,by rw [hm'];exact hj,fun j=>by have:=hDq j;rw [zac] at this;exact this⟩,⟨qa,⟨⟨⟨rfl,rfl,rfl⟩,rfl,rfl,fun j _=>LeL.of_eq (by
     show [iv (setK i ((L.getD i nd0).kids.take (L.getD i nd0).kids.length) (qcr L i) j)]=_
     rw [zac];rfl)⟩,trivial⟩⟩,⟨qa,qa⟩,?_⟩;(first|omega|(dsimp only;omega)|skip))
 ·have hi':i=L.length:=by omega
  subst hi'
  rw [xx,qds] at hj
  subst hj
  (repeat' ((conv=>whnf);first|refine zA ?_|refine zO ?_|refine Ob.auto ?_|refine zD 300 ?_|(apply zB <;> intro hb <;> (try simp [-zd] at hb) <;> try (exfalso;omega))|refine Ob.intro ?_ ?_))
  exact Le.refl _
end Go.Proofs.Ythfaleaojlnnoaa
end
section
namespace Go.Proofs.Ythfaleaojlnnoaa
open List renaming getD_eq_getElem?_getD → zd
namespace Pa
open List renaming getD_eq_getElem?_getD → zd
open Go Go.Sx Go.St
theorem jcw {f g:Nat→Bool} {n:Nat} (h:∀ i,i<n→f i=g i):(List.range n).all f=(List.range n).all g:=by
 rw [xf]
 simp only [zu,zax]
 exact ⟨fun H i hi=>by rw [← h i hi];exact H i hi,fun H i hi=>by rw [h i hi];exact H i hi⟩
theorem jcx {f g:Nat→Bool}:∀ l:List Nat,(∀ x∈l,f x=g x)→l.findIdx? f=l.findIdx? g
 | [],_=>rfl
 | x::r,h=>by
  rw [List.findIdx?_cons,List.findIdx?_cons,h x (xz ..),jcx r (fun y hy=>h y (xu _ hy))]
theorem jpr {L L':List Nd} {n n':Nd} (hk:n.kind=n'.kind) (hw:n.words=n'.words) (hn:n.nums=n'.nums) (hl:n.kids.length=n'.kids.length) (h:∀ i,i<n.kids.length→kidK L n i=kidK L' n' i):qbo L n=qbo L' n':=by
 have hA:∀ f a b,allB L n f a b=allB L' n' f a b:=fun f a b=>by
  unfold allB
  rw [← hl]
  exact jcw (fun i hi=>by rw [h i hi])
 have hE:∀ f a b,qbc L n f a b=qbc L' n' f a b:=fun f a b=>by
  unfold qbc
  rw [← hl]
  rw [jcw (fun i hi=>by rw [h i hi])]
 have hV:qfo L n=qfo L' n':=by
  unfold qfo Go.St.idx
  rw [← hl,jcx (f:=fun i=>kidK L n i != 2) (g:=fun i=>kidK L' n' i != 2) (List.range n.kids.length) (fun i hi=>by show (kidK L n i != 2)=(kidK L' n' i != 2);rw [h i (List.mem_range.1 hi)])]
 have hW:∀ c,qn n c=qn n' c:=fun c=>by unfold qn;rw [hw]
 have hN:∀ c m,ja n c m=ja n' c m:=fun c m=>by unfold ja;rw [hn]
 unfold qbo
 simp only [hk,hn,hl,hA,hE,hV,hW,hN]
def qkf (v:Tr):Nd:=⟨v.kind,[],[],[],0⟩
def jb (u:Tr):Nd:=⟨u.kind,u.words,u.nums,(List.range u.l.length).map Int.ofNat,0⟩
def qai (u:Tr):Bool:=qbo (u.l.map qkf) (jb u)
theorem qri (u:Tr):(jb u).kids.length=u.l.length:=by simp [jb]
theorem qrj (u:Tr) (i:Nat) (h:i<u.l.length):kidK (u.l.map qkf) (jb u) i=(u.l.getD i Tr.none).kind:=by
 unfold kidK jb
 simp only [zd,zg,List.getElem?_range h,xj,zau,Int.ofNat_eq_natCast,Int.toNat_natCast,zf h]
 rfl
theorem qvu (u:Tr) (f:Nat) (a b:Int) (h:∀ i,f≤i→i<u.l.length→inK (u.l.getD i Tr.none).kind a b=true):allB (u.l.map qkf) (jb u) f a b=true:=by
 unfold allB
 rw [qri]
 simp only [zu,zax,xy,zr]
 intro i hi
 by_cases hf:i<f
 ·exact .inl hf
 ·rw [qrj u i hi];exact .inr (h i (by omega) hi)
theorem qim (u:Tr) (first least most:Int) (h:∀ i,i<u.l.length→((i:Int)<first→inK (u.l.getD i Tr.none).kind 17 22=true)∧(first≤(i:Int)→(u.l.getD i Tr.none).kind=16)) (h1:first+least≤u.l.length) (h2:(u.l.length:Int)≤first+most):qbc (u.l.map qkf) (jb u) first least most=true:=by
 unfold qbc
 rw [qri]
 simp only [ze,zu,zax,zr]
 refine ⟨fun i hi=>?_,h1,h2⟩
 rw [qrj u i hi]
 by_cases hf:(i:Int)<first
 ·rw [(h i hi).1 hf,zaj hf,zw (show ¬ first≤(i:Int) by omega)];rfl
 ·rw [(h i hi).2 (by omega),zw hf,Bool.false_and,xt];simp
section
variable {a:Int}
theorem q_num {n:Int} (h0:0≤n) (h1:n≤999999):qai (.mk 17 [] [n] a [])=true:=by
 simp [qai,qbo,jb,qn,ja,Tr.kind,Tr.words,Tr.nums,Tr.l,h0,h1]
theorem jps {k:Int} {w:List UInt8} (hk:k=18∨k=19) (h:nameF w=true):qai (.mk k [w] [] a [])=true:=by
 rcases hk with rfl|rfl <;> simp [qai,qbo,jb,qn,ja,Tr.kind,Tr.words,Tr.nums,Tr.l,h]
theorem jcy {k:Int} {e:Tr} (hk:k=4∨k=20∨k=21) (he:inK e.kind 17 22=true):qai (.mk k [] [] a [e])=true:=by
 have hE:=qim (.mk k [] [] a [e]) 1 0 0 (fun i hi=>by
  obtain rfl:i=0:=by simpa [Tr.l] using hi
  exact ⟨fun _=>he,fun h=>by omega⟩) (by simp [Tr.l]) (by simp [Tr.l])
 have hW:qn (jb (.mk k [] [] a [e])) 0=true:=by simp [qn,jb,Tr.words]
 have hN:ja (jb (.mk k [] [] a [e])) 0 0=true:=by simp [ja,jb,Tr.nums]
 have hK:(jb (.mk k [] [] a [e])).kind=k:=rfl
 unfold qai qbo
 rw [hK]
 rcases hk with rfl|rfl|rfl <;> simp [hE,hW,hN]
theorem q_bin {sg:Int} {e f:Tr} (h0:0≤sg) (h8:sg≤8) (he:inK e.kind 17 22=true) (hf:inK f.kind 17 22=true):qai (.mk 22 [] [sg] a [e,f])=true:=by
 have hE:=qim (.mk 22 [] [sg] a [e,f]) 2 0 0 (fun i hi=>by
  have hi:i<2:=hi
  match i,hi with
  | 0,_=>exact ⟨fun _=>he,fun h=>by omega⟩
  | 1,_=>exact ⟨fun _=>hf,fun h=>by omega⟩) (by simp [Tr.l]) (by simp [Tr.l])
 have hW:qn (jb (.mk 22 [] [sg] a [e,f])) 0=true:=by simp [qn,jb,Tr.words]
 have hN:ja (jb (.mk 22 [] [sg] a [e,f])) 1 8=true:=by simp [ja,jb,Tr.nums,h0,h8]
 have hK:(jb (.mk 22 [] [sg] a [e,f])).kind=22:=rfl
 unfold qai qbo
 rw [hK]
 simp [hE,hW,hN]
theorem q_set {k:Int} {w:List UInt8} {e:Tr} (hk:k=6∨k=7) (hw:nameF w=true) (he:inK e.kind 17 22=true):qai (.mk k [w] [] a [e])=true:=by
 have hE:=qim (.mk k [w] [] a [e]) 1 0 0 (fun i hi=>by
  obtain rfl:i=0:=by simpa [Tr.l] using hi
  exact ⟨fun _=>he,fun h=>by omega⟩) (by simp [Tr.l]) (by simp [Tr.l])
 have hW:qn (jb (.mk k [w] [] a [e])) 1=true:=by simp [qn,jb,Tr.words,hw]
 have hN:ja (jb (.mk k [w] [] a [e])) 0 0=true:=by simp [ja,jb,Tr.nums]
 have hK:(jb (.mk k [w] [] a [e])).kind=k:=rfl
 unfold qai qbo
 rw [hK]
 rcases hk with rfl|rfl <;> simp [hE,hW,hN]
theorem jpt {d:Int} {w v:List UInt8} (hw:nameF w=true) (hv:nameF v=true) (h0:0≤d) (h1:d≤1):qai (.mk 8 [w,v] [d] a [])=true:=by
 simp [qai,qbo,jb,qn,ja,Tr.kind,Tr.words,Tr.nums,Tr.l,hw,hv,h0,h1]
theorem jpu {d:Int} {e:Tr} (h0:0≤d) (h1:d≤1) (he:inK e.kind 17 22=true):qai (.mk 9 [] [d] a [e])=true:=by
 have hE:=qim (.mk 9 [] [d] a [e]) 1 0 0 (fun i hi=>by
  obtain rfl:i=0:=by simpa [Tr.l] using hi
  exact ⟨fun _=>he,fun h=>by omega⟩) (by simp [Tr.l]) (by simp [Tr.l])
 have hW:qn (jb (.mk 9 [] [d] a [e])) 0=true:=by simp [qn,jb,Tr.words]
 have hN:ja (jb (.mk 9 [] [d] a [e])) 1 1=true:=by simp [ja,jb,Tr.nums,h0,h1]
 have hK:(jb (.mk 9 [] [d] a [e])).kind=9:=rfl
 unfold qai qbo
 rw [hK]
 simp [hE,hW,hN]
theorem jpv {d:Int} {l:List Tr} (h0:0≤d) (h1:d≤1) (hl:∀ i,i<l.length→(l.getD i Tr.none).kind=16) (hn:l≠[]) (h8:l.length≤800):qai (.mk 10 [] [d] a l)=true:=by
 have hp:=List.length_pos_iff.2 hn
 have hE:=qim (.mk 10 [] [d] a l) 0 1 800 (fun i hi=>⟨fun h=>by omega,fun _=>hl i hi⟩) (by show (0:Int)+1≤l.length;omega) (by show (l.length:Int)≤0+800;omega)
 have hW:qn (jb (.mk 10 [] [d] a l)) 0=true:=by simp [qn,jb,Tr.words]
 have hN:ja (jb (.mk 10 [] [d] a l)) 1 1=true:=by simp [ja,jb,Tr.nums,h0,h1]
 have hK:(jb (.mk 10 [] [d] a l)).kind=10:=rfl
 unfold qai qbo
 rw [hK]
 simp [hE,hW,hN]
theorem q_if {e b:Tr} (k:Int) (hk:k=11∨k=12) (he:inK e.kind 17 22=true) (hb:b.kind=16):qai (.mk k [] [] a [e,b])=true:=by
 have hE:∀ m,1≤m→qbc ((Tr.mk k [] [] a [e,b]).l.map qkf) (jb (.mk k [] [] a [e,b])) 1 1 m=true:=fun m hm=>qim (.mk k [] [] a [e,b]) 1 1 m (fun i hi=>by
  have hi:i<2:=hi
  match i,hi with
  | 0,_=>exact ⟨fun _=>he,fun h=>by omega⟩
  | 1,_=>exact ⟨fun h=>by omega,fun _=>hb⟩) (by show (1:Int)+1≤2;decide) (by show (2:Int)≤1+m;omega)
 have hW:qn (jb (.mk k [] [] a [e,b])) 0=true:=by simp [qn,jb,Tr.words]
 have hN:ja (jb (.mk k [] [] a [e,b])) 0 0=true:=by simp [ja,jb,Tr.nums]
 have hK:(jb (.mk k [] [] a [e,b])).kind=k:=rfl
 unfold qai qbo
 rw [hK]
 rcases hk with rfl|rfl <;> simp [hE 1 (by decide),hE 2 (by decide),hW,hN]
theorem q_ife {e b c:Tr} (he:inK e.kind 17 22=true) (hb:b.kind=16) (hc:c.kind=16):qai (.mk 11 [] [] a [e,b,c])=true:=by
 have hE:=qim (.mk 11 [] [] a [e,b,c]) 1 1 2 (fun i hi=>by
  have hi:i<3:=hi
  match i,hi with
  | 0,_=>exact ⟨fun _=>he,fun h=>by omega⟩
  | 1,_=>exact ⟨fun h=>by omega,fun _=>hb⟩
  | 2,_=>exact ⟨fun h=>by omega,fun _=>hc⟩) (by show (1:Int)+1≤3;decide) (by show (3:Int)≤1+2;decide)
 have hW:qn (jb (.mk 11 [] [] a [e,b,c])) 0=true:=by simp [qn,jb,Tr.words]
 have hN:ja (jb (.mk 11 [] [] a [e,b,c])) 0 0=true:=by simp [ja,jb,Tr.nums]
 have hK:(jb (.mk 11 [] [] a [e,b,c])).kind=11:=rfl
 unfold qai qbo
 rw [hK]
 simp [hE,hW,hN]
theorem jpw {b:Tr} (hb:b.kind=16):qai (.mk 13 [] [] a [b])=true:=by
 have hE:=qim (.mk 13 [] [] a [b]) 0 1 1 (fun i hi=>by
  obtain rfl:i=0:=by simpa [Tr.l] using hi
  exact ⟨fun h=>by omega,fun _=>hb⟩) (by simp [Tr.l]) (by simp [Tr.l])
 have hW:qn (jb (.mk 13 [] [] a [b])) 0=true:=by simp [qn,jb,Tr.words]
 have hN:ja (jb (.mk 13 [] [] a [b])) 0 0=true:=by simp [ja,jb,Tr.nums]
 have hK:(jb (.mk 13 [] [] a [b])).kind=13:=rfl
 unfold qai qbo
 rw [hK]
 simp [hE,hW,hN]
theorem jcz {k:Int} (hk:k=5∨k=14∨k=15):qai (.mk k [] [] a [])=true:=by
 rcases hk with rfl|rfl|rfl <;> simp [qai,qbo,jb,qn,ja,Tr.kind,Tr.words,Tr.nums,Tr.l]
theorem jda {k:Int} {l:List Tr} (hk:(k=16∧∀ i,i<l.length→inK (l.getD i Tr.none).kind 6 15=true)∨(k=0∧∀ i,i<l.length→inK (l.getD i Tr.none).kind 1 5=true)):qai (.mk k [] [] a l)=true:=by
 have hW:qn (jb (.mk k [] [] a l)) 0=true:=by simp [qn,jb,Tr.words]
 have hN:ja (jb (.mk k [] [] a l)) 0 0=true:=by simp [ja,jb,Tr.nums]
 have hK:(jb (.mk k [] [] a l)).kind=k:=rfl
 unfold qai qbo
 rw [hK]
 rcases hk with ⟨rfl,h⟩|⟨rfl,h⟩
 ·have hA:=qvu (.mk 16 [] [] a l) 0 6 15 (fun i _ hi=>h i hi)
  simp [hA,hW,hN]
 ·have hA:=qvu (.mk 0 [] [] a l) 0 1 5 (fun i _ hi=>h i hi)
  simp [hA,hW,hN]
theorem q_var {n v:Int} {w:List UInt8} (hw:nameF w=true) (h0:0≤n) (h1:n≤999999) (h2:-999999≤v) (h3:v≤999999):qai (.mk 2 [w] [n,v] a [])=true:=by
 simp [qai,qbo,jb,qn,ja,inK,Tr.kind,Tr.words,Tr.nums,Tr.l,hw,h0,h1,h2,h3]
theorem jpx {n m b c:Int} {w:List UInt8} (hw:nameF w=true) (h0:0≤n) (h1:n≤999999) (h2:0≤m) (h3:m≤999999) (h4:0≤b) (h5:b≤1) (h6:0≤c) (h7:c≤1):qai (.mk 1 [w] [n,m,b,c] a [])=true:=by
 simp [qai,qbo,jb,qn,ja,Tr.kind,Tr.words,Tr.nums,Tr.l,hw,h0,h1,h2,h3,h4,h5,h6,h7]
 omega
theorem jpy {c:Int} {w:List UInt8} {vs ss:List Tr} (hw:nameF w=true) (h0:0≤c) (h1:c≤999999) (hv:∀ i,i<vs.length→(vs.getD i Tr.none).kind=2) (hs:∀ i,i<ss.length→inK (ss.getD i Tr.none).kind 6 15=true):qai (.mk 3 [w] [c] a (vs++ss))=true:=by
 have hW:qn (jb (.mk 3 [w] [c] a (vs++ss))) 1=true:=by simp [qn,jb,Tr.words,hw]
 have hN:ja (jb (.mk 3 [w] [c] a (vs++ss))) 1 999999=true:=by simp [ja,jb,Tr.nums,h0,h1]
 have hK:(jb (.mk 3 [w] [c] a (vs++ss))).kind=3:=rfl
 have hlen:(jb (.mk 3 [w] [c] a (vs++ss))).kids.length=vs.length+ss.length:=by rw [qri];simp [Tr.l]
 have hkid:∀ i,i<(vs++ss).length→kidK ((Tr.mk 3 [w] [c] a (vs++ss)).l.map qkf) (jb (.mk 3 [w] [c] a (vs++ss))) i=((vs++ss).getD i Tr.none).kind:=fun i hi=>qrj _ i hi
 have hlo:∀ i,i<vs.length→(vs++ss).getD i Tr.none=vs.getD i Tr.none:=fun i hi=>by
  rw [zd,zo hi,← zd]
 have hhi:∀ i,vs.length≤i→(vs++ss).getD i Tr.none=ss.getD (i - vs.length) Tr.none:=fun i hi=>by
  rw [zd,zk hi,← zd]
 have hV:qfo ((Tr.mk 3 [w] [c] a (vs++ss)).l.map qkf) (jb (.mk 3 [w] [c] a (vs++ss)))=vs.length:=by
  refine qzr _ _ _ (by omega) (fun j hj=>?_) ?_
  ·rw [hkid j (by simp;omega),hlo j hj];exact hv j hj
  ·by_cases h:ss.length=0
   ·exact .inl (by omega)
   ·refine .inr ?_
    rw [hkid vs.length (by simp;omega),hhi _ (zh _),xx]
    have:=hs 0 (by omega)
    unfold inK at this
    simp only [ze,zr] at this
    omega
 have hA:=qvu (.mk 3 [w] [c] a (vs++ss)) vs.length 6 15 (fun i hi hl=>by
  have hl:i<(vs++ss).length:=hl
  rw [zs] at hl
  show inK ((vs++ss).getD i Tr.none).kind 6 15=true
  rw [hhi i hi];exact hs _ (by omega))
 unfold qai qbo
 rw [hK]
 simp [hV,hA,hW,hN]
end
end Pa
end Go.Proofs.Ythfaleaojlnnoaa
end
