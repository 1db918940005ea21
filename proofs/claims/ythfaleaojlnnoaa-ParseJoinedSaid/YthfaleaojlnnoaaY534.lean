/- Some texts of the library, one behind the other. -/
import Derived.Test.YthfaleaojlnnoaaY5PcF
import Derived.Test.YthfaleaojlnnoaaY533
import Derived.Test.YthfaleaojlnnoaaY52
set_option linter.unusedSimpArgs false
set_option linter.unusedVariables false
section
namespace Go.Proofs.Ythfaleaojlnnoaa
open List renaming getD_eq_getElem?_getD → zd
open Go Go.Sx Go.RowKit Go.St Pa
set_option maxRecDepth 100000
set_option maxHeartbeats 8000000
def qdb (L:List Nd):Nat→(Nat→Int)
 | 0=>fun j=>if j=0 then 1 else 0
 | i+1=>setK i (L.getD i nd0).kids (qdb L i)
theorem jdy (i:Nat) (k:Int):∀ (ks:List Int) (D:Nat→Int),setK i (ks++[k]) D=setD (setK i ks D) k.toNat (setK i ks D i+1)
 | [],D=>rfl
 | x::ks,D=>by
  rw [xl,setK,jdy i k ks,setK]
theorem jrq {l:List Int} {q:Nat} (h:q<l.length):l.take (q+1)=l.take q++[l.getD q 0]:=by
 rw [List.take_add_one,zd,zg h];rfl
theorem jrr (L:List Nd):∀ (m i:Nat),qee L (m+1) i (qdb L i)=if i<L.length then (if 20<qdb L i i then (12,(L.getD i nd0).at_) else qee L m (i+1) (qdb L (i+1))) else (0,0):=fun m i=>by rw [qee];rfl
theorem jrs (L:List Nd) (h0:0<L.length) (hl:L.length≤100000) (hk:∀ j,j<L.length→∀ k∈(L.getD j nd0).kids,(j:Int)<k∧k<L.length) (hkl:∀ j,j<L.length→(L.getD j nd0).kids.length≤100000):Con Try.prog 22 [qkc L] (flt (qgl L).1 (qgl L).2):=by
 refine zK {owns:=[(14,(3,1))]} 300 Try.func22 (fun c0 rdb=>?_)
 (repeat' ((conv=>whnf);first|refine zA ?_|refine zO ?_|refine Ob.auto ?_|(refine Ob.intro (by (exact qy (by omega) (by omega))) ?_)|refine zD 300 ?_|(apply zB <;> intro hb <;> (try simp [-zd] at hb) <;> try (exfalso;omega))|refine Ob.intro ?_ ?_))
 ·have e:qgl L=(12,0):=zf (by omega)
  rw [e]
  exact Le.refl _
 ·have hb8:((tab Try.prog 3).bytes:Int)=8:=by decide +kernel
  have:((L.length:Nat):Int) * ((tab Try.prog 3).bytes:Int)≤140737488355328:=by rw [hb8];omega
  exact ⟨by omega,by omega,by omega,this⟩
 have e0:qgl L=qee L L.length 0 (qdb L 0):=ze (by omega)
 rw [e0]
 generalize hZ:qee L L.length 0 (qdb L 0)=Z
 ((conv=>whnf);refine qbs (fun _=>rfl) 300 1 (fun i:Nat=>[(19,iv i)]) (fun i=>[(1,.row [] 3 1 0 L.length (fun j=>[iv (qdb L i j)]))]) (fun i=>i≤L.length∧qee L (L.length - i) i (qdb L i)=Z∧∀ j,0≤qdb L i j∧qdb L i j≤21) (fun i=>L.length - i) (0) (⟨xu _,hZ,fun j=>by unfold qdb;split <;> omega⟩) qa ⟨⟨⟨rfl,rfl,rfl⟩,rfl,by simp,fun j _=>if h:j=0 then (by subst h;exact ⟨Le.refl _,trivial⟩) else LeL.of_eq ((ze (show ¬ j=Int.toNat 0 from h)).trans (by show _=[iv (if j=0 then 1 else 0)];rw [ze h];rfl))⟩,trivial⟩ (fun _=>rfl) (by kernel_rfl) ?_;(conv=>whnf))
 rintro i ⟨hi,hj,hD⟩
 by_cases hil:i<L.length
 ·obtain ⟨m,hm⟩:∃ m,L.length - i=m+1:=⟨L.length - i - 1,by omega⟩
  rw [hm,jrr,zf hil] at hj
  have hm':L.length - (i+1)=m:=by omega
  have hDi:=hD i
  (repeat' ((conv=>whnf);first|refine zA ?_|refine zO ?_|refine Ob.auto ?_|refine zI ?_|refine zD 300 ?_|(apply zB <;> intro hb <;> (try simp [-zd] at hb) <;> try (exfalso;omega))|refine Ob.intro ?_ ?_))
  ·rw [zf (by omega)] at hj
   subst hj
   exact Le.refl _
  ·rw [ze (by omega)] at hj
   have hne:∀ k∈(L.getD i nd0).kids,k.toNat≠i:=fun k hk'=>by have:=hk i hil k hk';omega
   have hlen:=hkl i hil
   ((conv=>whnf);refine qbs (fun _=>rfl) 300 3 (fun q:Nat=>[(35,iv q),(17,qkc L),(18,iv L.length)]) (fun q=>[(1,.row [] 3 1 0 L.length (fun j=>[iv (setK i ((L.getD i nd0).kids.take q) (qdb L i) j)]))]) (fun q=>q≤(L.getD i nd0).kids.length∧∀ j,0≤setK i ((L.getD i nd0).kids.take q) (qdb L i) j∧setK i ((L.getD i nd0).kids.take q) (qdb L i) j≤21) (fun q=>(L.getD i nd0).kids.length - q) (0) (⟨xu _,hD⟩) qa qa (fun _=>rfl) (by kernel_rfl) ?_;(conv=>whnf))
   rintro q ⟨hq,hDq⟩
   by_cases hql:q<(L.getD i nd0).kids.length
   ·have hkq:=hk i hil _ (qqz (L.getD i nd0).kids q 0 hql)
    have hoi:setK i ((L.getD i nd0).kids.take q) (qdb L i) i=qdb L i i:=qsa _ _ _ (fun k hk'=>hne k (List.mem_of_mem_take hk'))
    have hts:(L.getD i nd0).kids.take (q+1)=(L.getD i nd0).kids.take q++[(L.getD i nd0).kids.getD q 0]:=jrq hql
    have hDq2:∀ j,setK i ((L.getD i nd0).kids.take (q+1)) (qdb L i) j=if j=((L.getD i nd0).kids.getD q 0).toNat then qdb L i i+1 else setK i ((L.getD i nd0).kids.take q) (qdb L i) j:=fun j=>by
     rw [hts,jdy]
     unfold setD
     rw [hoi]
    rw [← hoi] at hDi
    (repeat' ((conv=>whnf);first|refine zA ?_|refine zO ?_|refine Ob.auto ?_|(refine Ob.intro (by (first|exact ⟨by omega,by omega⟩|exact qy (by omega) (by omega))) ?_)|refine zD 300 ?_|(apply zB <;> intro hb <;> (try simp [-zd] at hb) <;> try (exfalso;omega))|refine Ob.intro ?_ ?_))
    ·show inR .i64 (setK i ((L.getD i nd0).kids.take q) (qdb L i) i+1)
     exact qy (by omega) (by omega)
    ·refine ⟨⟨rfl,rfl⟩,(show 0≤(L.getD i nd0).kids.getD q 0 by omega),(show (L.getD i nd0).kids.getD q 0<(((L.length:Int).toNat:Nat):Int) by omega)⟩
    ((conv=>whnf);refine ⟨q+1,⟨hql,fun j=>by rw [hDq2];have:=hDq j;split <;> omega⟩,⟨qa,⟨⟨⟨rfl,rfl,rfl⟩,rfl,rfl,fun j _=>LeL.of_eq (by
     show _=[iv (setK i ((L.getD i nd0).kids.take (q+1)) (qdb L i) j)]
     rw [hDq2]
     by_cases hjk:j=((L.getD i nd0).kids.getD q 0).toNat
     ·rw [zf hjk]
      refine (zf hjk).trans ?_
      rw [← hoi];rfl
     ·rw [ze hjk]
      exact ze hjk)⟩,trivial⟩⟩,⟨qa,qa⟩,?_⟩;(first|omega|(dsimp only;omega)|skip))
   ·have hq':q=(L.getD i nd0).kids.length:=by omega
    subst hq'
    (repeat' ((conv=>whnf);first|refine zA ?_|refine zO ?_|refine Ob.auto ?_|(refine Ob.intro (by (exact qy (by omega) (by omega))) ?_)|refine zD 300 ?_|(apply zB <;> intro hb <;> (try simp [-zd] at hb) <;> try (exfalso;omega))|refine Ob.intro ?_ ?_))
    ((conv=>whnf);refine ⟨i+1,⟨hil,by rw [hm'];exact hj,fun j=>by have:=hDq j;rw [zaf] at this;exact this⟩,⟨qa,⟨⟨⟨rfl,rfl,rfl⟩,rfl,rfl,fun j _=>LeL.of_eq (by
     show [iv (setK i ((L.getD i nd0).kids.take (L.getD i nd0).kids.length) (qdb L i) j)]=_
     rw [zaf];rfl)⟩,trivial⟩⟩,⟨qa,qa⟩,?_⟩;(first|omega|(dsimp only;omega)|skip))
 ·have hi':i=L.length:=by omega
  subst hi'
  rw [zaa,qee] at hj
  subst hj
  (repeat' ((conv=>whnf);first|refine zA ?_|refine zO ?_|refine Ob.auto ?_|refine zD 300 ?_|(apply zB <;> intro hb <;> (try simp [-zd] at hb) <;> try (exfalso;omega))|refine Ob.intro ?_ ?_))
  exact Le.refl _
end Go.Proofs.Ythfaleaojlnnoaa
end
section
namespace Go.Proofs.Ythfaleaojlnnoaa
open List renaming getD_eq_getElem?_getD → zd
namespace Pa
open List renaming getD_eq_getElem?_getD → zd
open Go Go.Sx Go.St
theorem jdz {f g:Nat→Bool} {n:Nat} (h:∀ i,i<n→f i=g i):(List.range n).all f=(List.range n).all g:=by
 rw [xh]
 simp only [zx,zba]
 exact ⟨fun H i hi=>by rw [← h i hi];exact H i hi,fun H i hi=>by rw [h i hi];exact H i hi⟩
theorem jea {f g:Nat→Bool}:∀ l:List Nat,(∀ x∈l,f x=g x)→l.findIdx? f=l.findIdx? g
 | [],_=>rfl
 | x::r,h=>by
  rw [List.findIdx?_cons,List.findIdx?_cons,h x (zac ..),jea r (fun y hy=>h y (xy _ hy))]
theorem jrt {L L':List Nd} {n n':Nd} (hk:n.kind=n'.kind) (hw:n.words=n'.words) (hn:n.nums=n'.nums) (hl:n.kids.length=n'.kids.length) (h:∀ i,i<n.kids.length→kidK L n i=kidK L' n' i):qbt L n=qbt L' n':=by
 have hA:∀ f a b,allB L n f a b=allB L' n' f a b:=fun f a b=>by
  unfold allB
  rw [← hl]
  exact jdz (fun i hi=>by rw [h i hi])
 have hE:∀ f a b,qbh L n f a b=qbh L' n' f a b:=fun f a b=>by
  unfold qbh
  rw [← hl]
  rw [jdz (fun i hi=>by rw [h i hi])]
 have hV:qgb L n=qgb L' n':=by
  unfold qgb Go.St.idx
  rw [← hl,jea (f:=fun i=>kidK L n i != 2) (g:=fun i=>kidK L' n' i != 2) (List.range n.kids.length) (fun i hi=>by show (kidK L n i != 2)=(kidK L' n' i != 2);rw [h i (List.mem_range.1 hi)])]
 have hW:∀ c,qq n c=qq n' c:=fun c=>by unfold qq;rw [hw]
 have hN:∀ c m,jb n c m=jb n' c m:=fun c m=>by unfold jb;rw [hn]
 unfold qbt
 simp only [hk,hn,hl,hA,hE,hV,hW,hN]
def qkt (v:Tr):Nd:=⟨v.kind,[],[],[],0⟩
def jc (u:Tr):Nd:=⟨u.kind,u.words,u.nums,(List.range u.l.length).map Int.ofNat,0⟩
def qao (u:Tr):Bool:=qbt (u.l.map qkt) (jc u)
theorem qsc (u:Tr):(jc u).kids.length=u.l.length:=by simp [jc]
theorem qsd (u:Tr) (i:Nat) (h:i<u.l.length):kidK (u.l.map qkt) (jc u) i=(u.l.getD i Tr.none).kind:=by
 unfold kidK jc
 simp only [zd,zi,List.getElem?_range h,xm,zaw,Int.ofNat_eq_natCast,Int.toNat_natCast,zg h]
 rfl
theorem qwu (u:Tr) (f:Nat) (a b:Int) (h:∀ i,f≤i→i<u.l.length→inK (u.l.getD i Tr.none).kind a b=true):allB (u.l.map qkt) (jc u) f a b=true:=by
 unfold allB
 rw [qsc]
 simp only [zx,zba,zab,zw]
 intro i hi
 by_cases hf:i<f
 ·exact .inl hf
 ·rw [qsd u i hi];exact .inr (h i (by omega) hi)
theorem qjb (u:Tr) (first least most:Int) (h:∀ i,i<u.l.length→((i:Int)<first→inK (u.l.getD i Tr.none).kind 17 22=true)∧(first≤(i:Int)→(u.l.getD i Tr.none).kind=16)) (h1:first+least≤u.l.length) (h2:(u.l.length:Int)≤first+most):qbh (u.l.map qkt) (jc u) first least most=true:=by
 unfold qbh
 rw [qsc]
 simp only [zh,zx,zba,zw]
 refine ⟨fun i hi=>?_,h1,h2⟩
 rw [qsd u i hi]
 by_cases hf:(i:Int)<first
 ·rw [(h i hi).1 hf,zas hf,xa (show ¬ first≤(i:Int) by omega)];rfl
 ·rw [(h i hi).2 (by omega),xa hf,Bool.false_and,xx];simp
section
variable {a:Int}
theorem q_num {n:Int} (h0:0≤n) (h1:n≤999999):qao (.mk 17 [] [n] a [])=true:=by
 simp [qao,qbt,jc,qq,jb,Tr.kind,Tr.words,Tr.nums,Tr.l,h0,h1]
theorem jru {k:Int} {w:List UInt8} (hk:k=18∨k=19) (h:nameF w=true):qao (.mk k [w] [] a [])=true:=by
 rcases hk with rfl|rfl <;> simp [qao,qbt,jc,qq,jb,Tr.kind,Tr.words,Tr.nums,Tr.l,h]
theorem jeb {k:Int} {e:Tr} (hk:k=4∨k=20∨k=21) (he:inK e.kind 17 22=true):qao (.mk k [] [] a [e])=true:=by
 have hE:=qjb (.mk k [] [] a [e]) 1 0 0 (fun i hi=>by
  obtain rfl:i=0:=by simpa [Tr.l] using hi
  exact ⟨fun _=>he,fun h=>by omega⟩) (by simp [Tr.l]) (by simp [Tr.l])
 have hW:qq (jc (.mk k [] [] a [e])) 0=true:=by simp [qq,jc,Tr.words]
 have hN:jb (jc (.mk k [] [] a [e])) 0 0=true:=by simp [jb,jc,Tr.nums]
 have hK:(jc (.mk k [] [] a [e])).kind=k:=rfl
 unfold qao qbt
 rw [hK]
 rcases hk with rfl|rfl|rfl <;> simp [hE,hW,hN]
theorem q_bin {sg:Int} {e f:Tr} (h0:0≤sg) (h8:sg≤8) (he:inK e.kind 17 22=true) (hf:inK f.kind 17 22=true):qao (.mk 22 [] [sg] a [e,f])=true:=by
 have hE:=qjb (.mk 22 [] [sg] a [e,f]) 2 0 0 (fun i hi=>by
  have hi:i<2:=hi
  match i,hi with
  | 0,_=>exact ⟨fun _=>he,fun h=>by omega⟩
  | 1,_=>exact ⟨fun _=>hf,fun h=>by omega⟩) (by simp [Tr.l]) (by simp [Tr.l])
 have hW:qq (jc (.mk 22 [] [sg] a [e,f])) 0=true:=by simp [qq,jc,Tr.words]
 have hN:jb (jc (.mk 22 [] [sg] a [e,f])) 1 8=true:=by simp [jb,jc,Tr.nums,h0,h8]
 have hK:(jc (.mk 22 [] [sg] a [e,f])).kind=22:=rfl
 unfold qao qbt
 rw [hK]
 simp [hE,hW,hN]
theorem q_set {k:Int} {w:List UInt8} {e:Tr} (hk:k=6∨k=7) (hw:nameF w=true) (he:inK e.kind 17 22=true):qao (.mk k [w] [] a [e])=true:=by
 have hE:=qjb (.mk k [w] [] a [e]) 1 0 0 (fun i hi=>by
  obtain rfl:i=0:=by simpa [Tr.l] using hi
  exact ⟨fun _=>he,fun h=>by omega⟩) (by simp [Tr.l]) (by simp [Tr.l])
 have hW:qq (jc (.mk k [w] [] a [e])) 1=true:=by simp [qq,jc,Tr.words,hw]
 have hN:jb (jc (.mk k [w] [] a [e])) 0 0=true:=by simp [jb,jc,Tr.nums]
 have hK:(jc (.mk k [w] [] a [e])).kind=k:=rfl
 unfold qao qbt
 rw [hK]
 rcases hk with rfl|rfl <;> simp [hE,hW,hN]
theorem jrv {d:Int} {w v:List UInt8} (hw:nameF w=true) (hv:nameF v=true) (h0:0≤d) (h1:d≤1):qao (.mk 8 [w,v] [d] a [])=true:=by
 simp [qao,qbt,jc,qq,jb,Tr.kind,Tr.words,Tr.nums,Tr.l,hw,hv,h0,h1]
theorem jrw {d:Int} {e:Tr} (h0:0≤d) (h1:d≤1) (he:inK e.kind 17 22=true):qao (.mk 9 [] [d] a [e])=true:=by
 have hE:=qjb (.mk 9 [] [d] a [e]) 1 0 0 (fun i hi=>by
  obtain rfl:i=0:=by simpa [Tr.l] using hi
  exact ⟨fun _=>he,fun h=>by omega⟩) (by simp [Tr.l]) (by simp [Tr.l])
 have hW:qq (jc (.mk 9 [] [d] a [e])) 0=true:=by simp [qq,jc,Tr.words]
 have hN:jb (jc (.mk 9 [] [d] a [e])) 1 1=true:=by simp [jb,jc,Tr.nums,h0,h1]
 have hK:(jc (.mk 9 [] [d] a [e])).kind=9:=rfl
 unfold qao qbt
 rw [hK]
 simp [hE,hW,hN]
theorem jrx {d:Int} {l:List Tr} (h0:0≤d) (h1:d≤1) (hl:∀ i,i<l.length→(l.getD i Tr.none).kind=16) (hn:l≠[]) (h8:l.length≤800):qao (.mk 10 [] [d] a l)=true:=by
 have hp:=List.length_pos_iff.2 hn
 have hE:=qjb (.mk 10 [] [d] a l) 0 1 800 (fun i hi=>⟨fun h=>by omega,fun _=>hl i hi⟩) (by show (0:Int)+1≤l.length;omega) (by show (l.length:Int)≤0+800;omega)
 have hW:qq (jc (.mk 10 [] [d] a l)) 0=true:=by simp [qq,jc,Tr.words]
 have hN:jb (jc (.mk 10 [] [d] a l)) 1 1=true:=by simp [jb,jc,Tr.nums,h0,h1]
 have hK:(jc (.mk 10 [] [d] a l)).kind=10:=rfl
 unfold qao qbt
 rw [hK]
 simp [hE,hW,hN]
theorem q_if {e b:Tr} (k:Int) (hk:k=11∨k=12) (he:inK e.kind 17 22=true) (hb:b.kind=16):qao (.mk k [] [] a [e,b])=true:=by
 have hE:∀ m,1≤m→qbh ((Tr.mk k [] [] a [e,b]).l.map qkt) (jc (.mk k [] [] a [e,b])) 1 1 m=true:=fun m hm=>qjb (.mk k [] [] a [e,b]) 1 1 m (fun i hi=>by
  have hi:i<2:=hi
  match i,hi with
  | 0,_=>exact ⟨fun _=>he,fun h=>by omega⟩
  | 1,_=>exact ⟨fun h=>by omega,fun _=>hb⟩) (by show (1:Int)+1≤2;decide) (by show (2:Int)≤1+m;omega)
 have hW:qq (jc (.mk k [] [] a [e,b])) 0=true:=by simp [qq,jc,Tr.words]
 have hN:jb (jc (.mk k [] [] a [e,b])) 0 0=true:=by simp [jb,jc,Tr.nums]
 have hK:(jc (.mk k [] [] a [e,b])).kind=k:=rfl
 unfold qao qbt
 rw [hK]
 rcases hk with rfl|rfl <;> simp [hE 1 (by decide),hE 2 (by decide),hW,hN]
theorem q_ife {e b c:Tr} (he:inK e.kind 17 22=true) (hb:b.kind=16) (hc:c.kind=16):qao (.mk 11 [] [] a [e,b,c])=true:=by
 have hE:=qjb (.mk 11 [] [] a [e,b,c]) 1 1 2 (fun i hi=>by
  have hi:i<3:=hi
  match i,hi with
  | 0,_=>exact ⟨fun _=>he,fun h=>by omega⟩
  | 1,_=>exact ⟨fun h=>by omega,fun _=>hb⟩
  | 2,_=>exact ⟨fun h=>by omega,fun _=>hc⟩) (by show (1:Int)+1≤3;decide) (by show (3:Int)≤1+2;decide)
 have hW:qq (jc (.mk 11 [] [] a [e,b,c])) 0=true:=by simp [qq,jc,Tr.words]
 have hN:jb (jc (.mk 11 [] [] a [e,b,c])) 0 0=true:=by simp [jb,jc,Tr.nums]
 have hK:(jc (.mk 11 [] [] a [e,b,c])).kind=11:=rfl
 unfold qao qbt
 rw [hK]
 simp [hE,hW,hN]
theorem jry {b:Tr} (hb:b.kind=16):qao (.mk 13 [] [] a [b])=true:=by
 have hE:=qjb (.mk 13 [] [] a [b]) 0 1 1 (fun i hi=>by
  obtain rfl:i=0:=by simpa [Tr.l] using hi
  exact ⟨fun h=>by omega,fun _=>hb⟩) (by simp [Tr.l]) (by simp [Tr.l])
 have hW:qq (jc (.mk 13 [] [] a [b])) 0=true:=by simp [qq,jc,Tr.words]
 have hN:jb (jc (.mk 13 [] [] a [b])) 0 0=true:=by simp [jb,jc,Tr.nums]
 have hK:(jc (.mk 13 [] [] a [b])).kind=13:=rfl
 unfold qao qbt
 rw [hK]
 simp [hE,hW,hN]
theorem jec {k:Int} (hk:k=5∨k=14∨k=15):qao (.mk k [] [] a [])=true:=by
 rcases hk with rfl|rfl|rfl <;> simp [qao,qbt,jc,qq,jb,Tr.kind,Tr.words,Tr.nums,Tr.l]
theorem jed {k:Int} {l:List Tr} (hk:(k=16∧∀ i,i<l.length→inK (l.getD i Tr.none).kind 6 15=true)∨(k=0∧∀ i,i<l.length→inK (l.getD i Tr.none).kind 1 5=true)):qao (.mk k [] [] a l)=true:=by
 have hW:qq (jc (.mk k [] [] a l)) 0=true:=by simp [qq,jc,Tr.words]
 have hN:jb (jc (.mk k [] [] a l)) 0 0=true:=by simp [jb,jc,Tr.nums]
 have hK:(jc (.mk k [] [] a l)).kind=k:=rfl
 unfold qao qbt
 rw [hK]
 rcases hk with ⟨rfl,h⟩|⟨rfl,h⟩
 ·have hA:=qwu (.mk 16 [] [] a l) 0 6 15 (fun i _ hi=>h i hi)
  simp [hA,hW,hN]
 ·have hA:=qwu (.mk 0 [] [] a l) 0 1 5 (fun i _ hi=>h i hi)
  simp [hA,hW,hN]
theorem q_var {n v:Int} {w:List UInt8} (hw:nameF w=true) (h0:0≤n) (h1:n≤999999) (h2:-999999≤v) (h3:v≤999999):qao (.mk 2 [w] [n,v] a [])=true:=by
 simp [qao,qbt,jc,qq,jb,inK,Tr.kind,Tr.words,Tr.nums,Tr.l,hw,h0,h1,h2,h3]
theorem jrz {n m b c:Int} {w:List UInt8} (hw:nameF w=true) (h0:0≤n) (h1:n≤999999) (h2:0≤m) (h3:m≤999999) (h4:0≤b) (h5:b≤1) (h6:0≤c) (h7:c≤1):qao (.mk 1 [w] [n,m,b,c] a [])=true:=by
 simp [qao,qbt,jc,qq,jb,Tr.kind,Tr.words,Tr.nums,Tr.l,hw,h0,h1,h2,h3,h4,h5,h6,h7]
 omega
theorem jsa {c:Int} {w:List UInt8} {vs ss:List Tr} (hw:nameF w=true) (h0:0≤c) (h1:c≤999999) (hv:∀ i,i<vs.length→(vs.getD i Tr.none).kind=2) (hs:∀ i,i<ss.length→inK (ss.getD i Tr.none).kind 6 15=true):qao (.mk 3 [w] [c] a (vs++ss))=true:=by
 have hW:qq (jc (.mk 3 [w] [c] a (vs++ss))) 1=true:=by simp [qq,jc,Tr.words,hw]
 have hN:jb (jc (.mk 3 [w] [c] a (vs++ss))) 1 999999=true:=by simp [jb,jc,Tr.nums,h0,h1]
 have hK:(jc (.mk 3 [w] [c] a (vs++ss))).kind=3:=rfl
 have hlen:(jc (.mk 3 [w] [c] a (vs++ss))).kids.length=vs.length+ss.length:=by rw [qsc];simp [Tr.l]
 have hkid:∀ i,i<(vs++ss).length→kidK ((Tr.mk 3 [w] [c] a (vs++ss)).l.map qkt) (jc (.mk 3 [w] [c] a (vs++ss))) i=((vs++ss).getD i Tr.none).kind:=fun i hi=>qsd _ i hi
 have hlo:∀ i,i<vs.length→(vs++ss).getD i Tr.none=vs.getD i Tr.none:=fun i hi=>by
  rw [zd,zt hi,← zd]
 have hhi:∀ i,vs.length≤i→(vs++ss).getD i Tr.none=ss.getD (i - vs.length) Tr.none:=fun i hi=>by
  rw [zd,zn hi,← zd]
 have hV:qgb ((Tr.mk 3 [w] [c] a (vs++ss)).l.map qkt) (jc (.mk 3 [w] [c] a (vs++ss)))=vs.length:=by
  refine jat _ _ _ (by omega) (fun j hj=>?_) ?_
  ·rw [hkid j (by simp;omega),hlo j hj];exact hv j hj
  ·by_cases h:ss.length=0
   ·exact .inl (by omega)
   ·refine .inr ?_
    rw [hkid vs.length (by simp;omega),hhi _ (zj _),zaa]
    have:=hs 0 (by omega)
    unfold inK at this
    simp only [zh,zw] at this
    omega
 have hA:=qwu (.mk 3 [w] [c] a (vs++ss)) vs.length 6 15 (fun i hi hl=>by
  have hl:i<(vs++ss).length:=hl
  rw [zv] at hl
  show inK ((vs++ss).getD i Tr.none).kind 6 15=true
  rw [hhi i hi];exact hs _ (by omega))
 unfold qao qbt
 rw [hK]
 simp [hV,hA,hW,hN]
end
end Pa
end Go.Proofs.Ythfaleaojlnnoaa
end
section
namespace Go.Proofs.Ythfaleaojlnnoaa
namespace Pa
open Go Go.Sx Go.St
theorem qck {Q:Tr→Prop} {k a:Int} {w:List (List UInt8)} {n:List Int} {l:List Tr} (h:Q (.mk k w n a l)) (hl:Tr.allL Q l):(Tr.mk k w n a l).allT Q:=by rw [Tr.allT];exact ⟨h,hl⟩
theorem qdn {Q:Tr→Prop}:Tr.allL Q []:=by rw [Tr.allL];trivial
theorem qdu {Q:Tr→Prop} {t:Tr} {r:List Tr} (h:t.allT Q) (hr:Tr.allL Q r):Tr.allL Q (t::r):=by rw [Tr.allL];exact ⟨h,hr⟩
theorem qwv {Q:Tr→Prop}:∀ l r:List Tr,Tr.allL Q l→Tr.allL Q r→Tr.allL Q (l++r)
 | [],_,_,h=>h
 | t::l,r,h,h'=>by
  rw [Tr.allL] at h
  exact qdu h.1 (qwv l r h.2 h')
theorem qmw {R:Int→Int→Tr→Prop} {Q:Tr→Prop} (hR:∀ a b t,R a b t→t.allT Q):∀ (l:List Tr) (i j:Int),Seq R i j l→Tr.allL Q l
 | [],_,_,_=>qdn
 | _::r,_,_,⟨_,_,_,h,h'⟩=>qdu (hR _ _ _ h) (qmw hR r _ _ h')
theorem qmx {R:Int→Int→Tr→Prop} {P:Tr→Prop} (hR:∀ a b t,R a b t→P t):∀ (l:List Tr) (i j:Int),Seq R i j l→∀ k,k<l.length→P (l.getD k Tr.none)
 | [],_,_,_,k,hk=>absurd hk (xf k)
 | _::_,_,_,⟨_,_,_,h,_⟩,0,_=>hR _ _ _ h
 | _::r,_,_,⟨_,_,_,_,h'⟩,k+1,hk=>qmx hR r _ _ h' k (by simpa using hk)
def qjc (u:Tr):Prop:=u.l.length≤800→qao u=true
def jsb (ts:List Lx.Tok):Alg ts where
 E _ _ t:=inK t.kind 17 22=true∧t.allT qjc
 S _ _ t:=inK t.kind 6 15=true∧t.allT qjc
 B _ _ t:=t.kind=16∧t.allT qjc
 V _ _ t:=t.kind=2∧t.allT qjc
 I _ _ t:=inK t.kind 1 5=true∧t.allT qjc
 rNum h0 h1 _:=⟨rfl,qck (fun _=>q_num h0 h1) qdn⟩
 rName hk hw _:=⟨by rcases hk with rfl|rfl <;> rfl,qck (fun _=>jru hk hw) qdn⟩
 rUn hk _ ht _:=⟨by rcases hk with rfl|rfl <;> rfl,qck (fun _=>jeb (.inr hk) ht.1) (qdu ht.2 qdn)⟩
 rPar _ ht _:=ht
 rBin h0 h8 ha _ hb:=⟨rfl,qck (fun _=>q_bin h0 h8 ha.1 hb.1) (qdu ha.2 (qdu hb.2 qdn))⟩
 rSet hk hw _ ht _:=⟨by rcases hk with rfl|rfl <;> rfl,qck (fun _=>q_set hk hw ht.1) (qdu ht.2 qdn)⟩
 rRecv hw hv h0 h1 _:=⟨rfl,qck (fun _=>jrv hw hv h0 h1) qdn⟩
 rWhen h0 h1 _ ht _:=⟨rfl,qck (fun _=>jrw h0 h1 ht.1) (qdu ht.2 qdn)⟩
 rChoose h0 h1 _ hl hn:=⟨rfl,qck (fun h8=>jrx h0 h1 (qmx (fun _ _ _ h=>h.1) _ _ _ hl) hn h8) (qmw (fun _ _ _ h=>h.2) _ _ _ hl)⟩
 rIf _ he _ hb:=⟨rfl,qck (fun _=>q_if 11 (.inl rfl) he.1 hb.1) (qdu he.2 (qdu hb.2 qdn))⟩
 rIfE _ he _ hb _ hc:=⟨rfl,qck (fun _=>q_ife he.1 hb.1 hc.1) (qdu he.2 (qdu hb.2 (qdu hc.2 qdn)))⟩
 rWhile _ he _ hb:=⟨rfl,qck (fun _=>q_if 12 (.inr rfl) he.1 hb.1) (qdu he.2 (qdu hb.2 qdn))⟩
 rAtom _ hb:=⟨rfl,qck (fun _=>jry hb.1) (qdu hb.2 qdn)⟩
 rBare hk _:=⟨by rcases hk with rfl|rfl <;> rfl,qck (fun _=>jec (.inr hk)) qdn⟩
 rBlock _ hl _:=⟨rfl,qck (fun _=>jed (.inl ⟨rfl,qmx (fun _ _ _ h=>h.1) _ _ _ hl⟩)) (qmw (fun _ _ _ h=>h.2) _ _ _ hl)⟩
 rVar hw h0 h1 h2 h3 _:=⟨rfl,qck (fun _=>q_var hw h0 h1 h2 h3) qdn⟩
 rIVar h:=⟨by rw [h.1];rfl,h.2⟩
 rChan hw h0 h1 h2 h3 h4 h5 h6 h7 _:=⟨rfl,qck (fun _=>jrz hw h0 h1 h2 h3 h4 h5 h6 h7) qdn⟩
 rProc hw h0 h1 _ hv hs _:=⟨rfl,qck (fun _=>jsa hw h0 h1 (qmx (fun _ _ _ h=>h.1) _ _ _ hv) (qmx (fun _ _ _ h=>h.1) _ _ _ hs)) (qwv _ _ (qmw (fun _ _ _ h=>h.2) _ _ _ hv) (qmw (fun _ _ _ h=>h.2) _ _ _ hs))⟩
 rSafe _ ht _:=⟨rfl,qck (fun _=>jeb (.inl rfl) ht.1) (qdu ht.2 qdn)⟩
 rDead _:=⟨rfl,qck (fun _=>jec (.inl rfl)) qdn⟩
theorem jee:∀ l:List Tr,l.length≤Tr.sizeL l
 | []=>xu _
 | t::r=>by
  have:=qpc t
  have:=jee r
  rw [Tr.sizeL,zr];omega
mutual
theorem right_fix:∀ t:Tr,t.size≤800→t.allT qjc→t.allT (fun u=>qao u=true)
 | .mk k w n a l,h,hq=>by
  rw [Tr.allT] at hq
  rw [Tr.size] at h
  have h1:=jee l
  exact qck (hq.1 (by show l.length≤800;omega)) (right_fixL l (by omega) hq.2)
theorem right_fixL:∀ l:List Tr,Tr.sizeL l≤800→Tr.allL qjc l→Tr.allL (fun u=>qao u=true) l
 | [],_,_=>qdn
 | t::r,h,hq=>by
  rw [Tr.allL] at hq
  rw [Tr.sizeL] at h
  exact qdu (right_fix t (by omega) hq.1) (right_fixL r (by omega) hq.2)
end
theorem jsc {L:List Nd} {nd:Nd} {u:Tr} (h:NdOf L nd u):qbt L nd=qao u:=by
 have hl:nd.kids.length=u.l.length:=by
  have:=congrArg List.length h.kids
  rwa [zl,zl] at this
 refine jrt h.kind h.words h.nums (by rw [qsc,hl]) (fun i hi=>?_)
 rw [qsd u i (by omega)]
 have hi':i<u.l.length:=by omega
 have:=congrArg (fun l=>l[i]?) h.kids
 simp only [zi,zg hi,zg hi',xm,Option.some.injEq,Prod.mk.injEq] at this
 unfold kidK
 rw [List.getD_eq_getElem?_getD (l:=nd.kids),zg hi,zaw,this.1,List.getD_eq_getElem?_getD,zg hi']
 rfl
theorem jsd {s:List UInt8} (h:(jk s).2.1=0):qvy (jk s).1=true:=by
 unfold jk at h ⊢
 split at h
 ·rename_i hn
  exact absurd h hn
 rename_i hn
 rw [ze hn]
 have he:(Lx.lexAll s).2.1=0:=Classical.byContradiction hn
 have hp:=qks he
 obtain ⟨ht,h0⟩:=qgi he
 generalize (Lx.lexAll s).1=ts at hp ht h0 h ⊢
 have hA:AtOk ts ⟨0,0,0,0⟩:=⟨zp _,by simp only;omega⟩
 unfold qbi at h ⊢
 simp only at h ⊢
 split at h
 ·rename_i hx
  exact absurd h hx
 rename_i hx
 rw [ze hx]
 have hx:(ji ts ⟨0,0,0,0⟩).2.err=0:=Classical.byContradiction hx
 split at h
 ·simp at h
 rename_i h8
 rw [ze h8]
 split at h
 ·simp at h
 rename_i hd
 rw [ze hd]
 obtain ⟨l,j,e,hs,hj⟩:=qwt ht hA hx
 obtain ⟨l',e',hr⟩:=jdv ht (jsb ts) hA hx
 obtain rfl:l=l':=by rw [e] at e';injection e'
 have e:(ji ts ⟨0,0,0,0⟩).1=.mk 0 [] [] (posT ts 0) l:=e
 rw [e] at h8 hd ⊢
 rw [lay_lenT] at h8
 have hnn:(Tr.mk 0 [] [] (posT ts 0) l).allT (fun u=>0≤u.at_):=by
  refine qck ?_ (spL_nonneg (fun t hm=>(hp.1 t hm).1) l _ j hs (zp _) (by omega))
  obtain ⟨t,hm,e2⟩:=qmv (ts:=ts) (i:=0) (zp _) (by omega)
  have:=(hp.1 t hm).1
  show 0≤posT ts 0
  omega
 have hw:=jrp _ hnn hd
 have hq:(Tr.mk 0 [] [] (posT ts 0) l).allT qjc:=qck (fun _=>jed (.inr ⟨rfl,qmx (fun _ _ _ h=>h.1) _ _ _ hr⟩)) (qmw (fun _ _ _ h=>h.2) _ _ _ hr)
 have hz:=right_fix _ (by omega) hq
 have hall:(layT 0 (Tr.mk 0 [] [] (posT ts 0) l)).all (qbt (layT 0 (Tr.mk 0 [] [] (posT ts 0) l)))=true:=by
  rw [zx]
  intro nd hm
  obtain ⟨u,hu,ho⟩:=layT_of (layT 0 (Tr.mk 0 [] [] (posT ts 0) l)) _ 0 [] [] (by simp) rfl hz nd hm
  rw [jsc ho];exact hu
 have hsz:=qpc (Tr.mk 0 [] [] (posT ts 0) l)
 have hk:((layT 0 (Tr.mk 0 [] [] (posT ts 0) l)).getD 0 nd0).kind=0:=by rw [layT];rfl
 unfold qvy
 rw [hw,hk,hall,lay_lenT,xa (by omega),xa h8]
 simp
theorem jse {s:List UInt8} (h:(jk s).2.1≠0):(jk s).1=[]:=by
 unfold jk at h ⊢
 split
 ·rfl
 rename_i hn
 rw [ze hn] at h
 unfold qbi at h ⊢
 simp only at h ⊢
 split
 ·rfl
 rename_i hx
 rw [ze hx] at h
 split
 ·rfl
 rename_i h8
 rw [ze h8] at h
 split
 ·rfl
 rename_i hd
 rw [ze hd] at h
 exact absurd rfl h
end Pa
end Go.Proofs.Ythfaleaojlnnoaa
end
