/- Some texts of the library, one behind the other. -/
import Derived.Test.YtkhdldncbmkidaaY139
import Derived.Test.YtkhdldncbmkidaaY1RuWH
import Derived.Test.YtkhdldncbmkidaaY12
set_option linter.unusedSimpArgs false
set_option linter.unusedVariables false
section
namespace Go.Proofs.Ytkhdldncbmkidaa
open Go Go.Sx Go.RowKit Go.Ru Go.Cl Go.St
set_option maxRecDepth 100000
set_option maxHeartbeats 8000000

theorem qxg (cs:List (List Int)) (p:List Ln) (goal:List Int):qmc cs p goal=if cs.all rightB && rightB goal then (if (qbq cs 0 p).1=0 then (if (qbq cs 0 p).2.any (fun d=>qbz d goal) || jx (qbq cs 0 p).2 goal then 0 else (p.length:Int)+1) else (qbq cs 0 p).1) else -1:=by
 unfold qmc
 split
 ·obtain ⟨n,th⟩:=qbq cs 0 p
  by_cases h:n=0
  ·subst h;rfl
  ·rw [zb h]
   split
   ·rename_i h'
    exact absurd (congrArg Prod.fst h') h
   ·rename_i h'
    exact (congrArg Prod.fst h').symm
 ·rfl
end Go.Proofs.Ytkhdldncbmkidaa
end
section
namespace Go.Proofs.Ytkhdldncbmkidaa
open List renaming getD_eq_getElem?_getD → zd
open Go Go.Sx Go.RowKit Go.Ru Go.Cl Go.St
set_option maxRecDepth 100000
set_option maxHeartbeats 8000000
def qds (cs:List (List Int)) (n v:Int):Bool:=decide ((cs.length:Int)≤n) && cs.all fun c=>decide ((c.length:Int)≤30) && decide (qe [c]≤v)
theorem qxh {cs:List (List Int)} {n v:Int} {i:Nat} (hi:i<cs.length) (h:¬ (((cs.getD i []).length:Int)≤30∧qe [cs.getD i []]≤v)):qds cs n v=false:=by
 rw [Bool.eq_false_iff]
 intro k
 unfold qds at k
 rw [zh] at k
 have:=List.all_eq_true.1 k.2 _ (qgn cs i [] hi)
 rw [zh,xi,xi] at this
 exact h this
theorem jiz {cs:List (List Int)} {n v:Int} (h:qds cs n v=true):(cs.length:Int)≤n∧∀ c∈cs,c.length≤30∧qe [c]≤v:=by
 unfold qds at h
 rw [zh,xi] at h
 refine ⟨h.1,fun c hc=>?_⟩
 have:=List.all_eq_true.1 h.2 c hc
 rw [zh,xi,xi] at this
 exact ⟨by omega,this.2⟩
theorem jja (cs:List (List Int)) (n v:Int) (hn:n≤1000000):Con Try.prog 9 [qbf cs,iv n,iv v] (.bool (qds cs n v)):=by
 by_cases hl:(cs.length:Int)≤n
 ·refine zK {} 300 Try.func9 (fun c0 rdb=>?_)
  (repeat' ((conv=>whnf);first|refine zA ?_|refine zO ?_|refine Ob.auto ?_|refine zD 300 ?_|(apply zB <;> intro hb <;> (try simp [-zd] at hb) <;> try (exfalso;omega))|refine Ob.intro ?_ ?_))
  ((conv=>whnf);refine jp (fun _=>rfl) 300 1 (fun i:Nat=>[(7,iv i)]) (fun _=>[]) (fun i=>i≤cs.length∧∀ j,j<i→((cs.getD j []).length:Int)≤30∧qe [cs.getD j []]≤v) (fun i=>cs.length - i) (0) (⟨xb _,fun j hj=>absurd hj (zw j)⟩) qb qb (fun _=>rfl) (by kernel_rfl) ?_;(conv=>whnf))
  rintro i ⟨hi,hp⟩
  by_cases hil:i<cs.length
  ·by_cases hlen:(cs.getD i []).length≤30
   ·have h1:=jhd [cs.getD i []] (Nat.le_of_ble_eq_true rfl) (fun c hc=>by simp only [zk] at hc;subst hc;omega)
    have hle:Le (.slc 1 (((i:Int)+1).toNat - (i:Int).toNat) fun k=>encL (fun l=>[ints l]) [] cs ((i:Int).toNat+k)) (qbf [cs.getD i []]):=Le.slc (by show _=1;omega) fun k hk=>by
     have hk:k=0:=by omega
     subst hk
     rfl
    (repeat' ((conv=>whnf);first|refine zA ?_|refine zO ?_|refine Ob.auto ?_|refine zI ?_|refine zD 300 ?_|(apply zB <;> intro hb <;> (try simp [-zd] at hb) <;> try (exfalso;omega))|refine Ob.intro ?_ ?_))
    ((conv=>whnf);refine qfa (fun _=>rfl) 300 (fun _=>h1) (by rfl) (fun hg=>⟨(Le.cnd hg).trans hle,trivial⟩) (by kernel_rfl) ?_)
    (repeat' ((conv=>whnf);first|refine zA ?_|refine zO ?_|refine Ob.auto ?_|refine zI ?_|refine zD 300 ?_|(apply zB <;> intro hb <;> (try simp [-zd] at hb) <;> try (exfalso;omega))|refine Ob.intro ?_ ?_))
    ·refine Le.of_eq (congrArg AV.bool (qxh hil fun h=>?_).symm)
     omega
    ·((conv=>whnf);refine ⟨i+1,⟨by omega,qkt hp hb⟩,⟨qb,qb⟩,⟨qb,qb⟩,?_⟩;(first|omega|(dsimp only;omega)|skip))
   ·(repeat' ((conv=>whnf);first|refine zA ?_|refine zO ?_|refine Ob.auto ?_|refine zI ?_|refine zD 300 ?_|(apply zB <;> intro hb <;> (try simp [-zd] at hb) <;> try (exfalso;omega))|refine Ob.intro ?_ ?_))
    have hno:(!decide ((30:Int)<((cs.getD (i:Int).toNat []).length:Int)))=true→Con Try.prog 12 [.slc 1 (((i:Int)+1).toNat - (i:Int).toNat) fun k=>encL (fun l=>[ints l]) [] cs ((i:Int).toNat+k)] (iv 0):=fun h=>by
     simp [-zd] at h;omega
    ((conv=>whnf);refine qfa (fun _=>rfl) 300 (fun hg=>hno hg) (by rfl) (fun hg=>⟨Le.cnd hg,trivial⟩) (by kernel_rfl) ?_)
    (repeat' ((conv=>whnf);first|refine zA ?_|refine zO ?_|refine Ob.auto ?_|refine zI ?_|refine zD 300 ?_|(apply zB <;> intro hb <;> (try simp [-zd] at hb) <;> try (exfalso;omega))|refine Ob.intro ?_ ?_))
    refine Le.of_eq (congrArg AV.bool (qxh hil fun h=>?_).symm)
    omega
  ·obtain rfl:i=cs.length:=by omega
   (repeat' ((conv=>whnf);first|refine zA ?_|refine zO ?_|refine Ob.auto ?_|refine zI ?_|refine zD 300 ?_|(apply zB <;> intro hb <;> (try simp [-zd] at hb) <;> try (exfalso;omega))|refine Ob.intro ?_ ?_))
   refine Le.of_eq (congrArg AV.bool ?_)
   unfold qds
   rw [zam hl,zbi]
   refine (List.all_eq_true.2 fun c hc=>?_).symm
   obtain ⟨j,hj,rfl⟩:=List.mem_iff_getElem.1 hc
   have:=hp j hj
   rw [zd,ze hj] at this
   rw [zh,xi,xi]
   exact this
 ·refine zK {} 300 Try.func9 (fun c0 rdb=>?_)
  (repeat' ((conv=>whnf);first|refine zA ?_|refine zO ?_|refine Ob.auto ?_|refine zD 300 ?_|(apply zB <;> intro hb <;> (try simp [-zd] at hb) <;> try (exfalso;omega))|refine Ob.intro ?_ ?_))
  unfold qds
  rw [decide_eq_false hl,Bool.false_and]
  exact Le.refl _
theorem lit2 {f:Nat→List AV} {a b:Int} (h0:f 0=[iv a]) (h1:f 1=[iv b]):Le (.slc 1 2 f) (ints [a,b]):=Le.slc rfl fun i hi=>by
 have hi:i<2:=hi
 match i,hi with
 | 0,_=>exact h0
 | 1,_=>exact h1
theorem litA {f:Nat→List AV} {a b:List Int} {x y:AV} (h0:f 0=[x]) (h1:f 1=[y]) (k0:Le x (ints a)) (k1:Le y (ints b)):Le (.slc 1 2 f) (qbf [a,b]):=Le.slcL rfl fun i hi=>by
 have hi:i<2:=hi
 match i,hi with
 | 0,_=>rw [h0];exact ⟨k0,trivial⟩
 | 1,_=>rw [h1];exact ⟨k1,trivial⟩
theorem ex_f1:qdr [[1,2],[-1,2]] [2]=true:=by
 rw [qmh (by decide) (by decide)]
 decide +kernel
theorem ex_f2:qdr [[1,2],[-1,2]] [1]=false:=by
 rw [qmh (by decide) (by decide)]
 decide +kernel
theorem ex_r1:jx [[1,2],[-1,2]] [2]=true:=by decide +kernel
theorem ex_r2:jx [[1,2],[-1,2]] [1]=false:=by decide +kernel
theorem qxi {d c:List Int} (hd:rightB d=true) (hc:rightB c=true) {x:Int} (h1:x∈d) (h2:x ∉ c):qbz d c=false:=by
 cases h:qbz d c with
 | false=>rfl
 | true=>
  have:=(qmf hd hc).1 h
  exact absurd (norm_mem.1 (this ▸ norm_mem.2 h1)) h2
theorem ex_c1:qde [[1,2],[-1,2]] [] [2]=0:=by
 rw [qwj (by decide) (by decide) (by simp),qxg]
 show (if (true && true)=true then (if (0:Int)=0 then (if (_ || jx [[1,2],[-1,2]] [2])=true then (0:Int) else _) else _) else -1)=0
 rw [ex_r1,Bool.or_true];rfl
theorem ex_c2:qde [[1,2],[-1,2]] [] [1]=1:=by
 rw [qwj (by decide) (by decide) (by simp),qxg]
 show (if (true && true)=true then (if (0:Int)=0 then (if ((qbz [1,2] [1] || (qbz [-1,2] [1] || false)) || jx [[1,2],[-1,2]] [1])=true then (0:Int) else _) else _) else -1)=1
 rw [ex_r2,qxi (x:=2) rfl rfl (by decide) (by decide),qxi (x:=2) rfl rfl (by decide) (by decide)];rfl
theorem ju:Con Try.prog 8 [] (.bool true):=by
 have h1:=qja [[1,2],[-1,2]] [2] (by decide) (by decide) (by decide)
 have h2:=qja [[1,2],[-1,2]] [1] (by decide) (by decide) (by decide)
 have h3:=qxf [[1,2],[-1,2]] [] [2] (by decide) (by decide) (by simp) (by decide)
 have h4:=qxf [[1,2],[-1,2]] [] [1] (by decide) (by decide) (by simp) (by decide)
 rw [ex_f1] at h1
 rw [ex_f2] at h2
 rw [ex_c1] at h3
 rw [ex_c2] at h4
 refine zK {} 300 Try.func8 (fun c0 rdb=>?_)
 (repeat' ((conv=>whnf);first|refine zO ?_|refine Ob.auto ?_|(apply zB <;> intro hb <;> (try simp [-zd] at hb) <;> try (exfalso;omega))|refine Ob.intro ?_ ?_))
 ((conv=>whnf);refine qbg (fun _=>rfl) 300 h1 (by rfl) ⟨litA rfl rfl (lit2 rfl rfl) (lit2 rfl rfl),qmp rfl,trivial⟩ (by kernel_rfl) ?_)
 (repeat' ((conv=>whnf);first|refine zO ?_|refine Ob.auto ?_|(apply zB <;> intro hb <;> (try simp [-zd] at hb) <;> try (exfalso;omega))|refine Ob.intro ?_ ?_))
 ((conv=>whnf);refine qfa (fun _=>rfl) 300 (fun _=>h2) (by rfl) (fun hg=>⟨(Le.cnd hg).trans (litA rfl rfl (lit2 rfl rfl) (lit2 rfl rfl)),(Le.cnd hg).trans (qmp rfl),trivial⟩) (by kernel_rfl) ?_)
 (repeat' ((conv=>whnf);first|refine zO ?_|refine Ob.auto ?_|(apply zB <;> intro hb <;> (try simp [-zd] at hb) <;> try (exfalso;omega))|refine Ob.intro ?_ ?_))
 ((conv=>whnf);refine qfa (fun _=>rfl) 300 (fun _=>h3) (by rfl) (fun hg=>⟨(Le.cnd hg).trans (litA rfl rfl (lit2 rfl rfl) (lit2 rfl rfl)),Le.nils _ _,(Le.cnd hg).trans (qmp rfl),trivial⟩) (by kernel_rfl) ?_)
 (repeat' ((conv=>whnf);first|refine zO ?_|refine Ob.auto ?_|(apply zB <;> intro hb <;> (try simp [-zd] at hb) <;> try (exfalso;omega))|refine Ob.intro ?_ ?_))
 ((conv=>whnf);refine qfa (fun _=>rfl) 300 (fun _=>h4) (by rfl) (fun hg=>⟨(Le.cnd hg).trans (litA rfl rfl (lit2 rfl rfl) (lit2 rfl rfl)),Le.nils _ _,(Le.cnd hg).trans (qmp rfl),trivial⟩) (by kernel_rfl) ?_)
 (repeat' ((conv=>whnf);first|refine zO ?_|refine Ob.auto ?_|(apply zB <;> intro hb <;> (try simp [-zd] at hb) <;> try (exfalso;omega))|refine Ob.intro ?_ ?_))
 exact Le.refl _
end Go.Proofs.Ytkhdldncbmkidaa
end
section
namespace Go.Proofs.Ytkhdldncbmkidaa
open Go Go.Sx Go.RowKit Go.Ru Go.Cl Go.St
set_option maxRecDepth 100000
theorem jjb {cs:List (List Int)} {c:List Int} (hr:cs.all rightB=true) (hc:c∈cs):jx cs c=true:=by
 unfold jx
 have hB:qiu cs (negs c)=true:=confR_iff.2 (.inr ⟨c,hc,fun m hm=>.base (List.mem_map.2 ⟨m,hm,rfl⟩)⟩)
 rw [hr,List.all_eq_true.1 hr c hc,hB];rfl
theorem jjc {cs:List (List Int)} {c more:List Int} (hm:rightB more=true) (h:jx cs c=true):jx (cs++[more]) c=true:=by
 unfold jx at h ⊢
 rw [zh,zh] at h
 rw [List.all_append,h.1.1,h.1.2,confR_iff.2 ((confR_iff.1 h.2).sub (fun d hd=>xt _ hd) (fun l hl=>hl))]
 simp [hm]
end Go.Proofs.Ytkhdldncbmkidaa
end
