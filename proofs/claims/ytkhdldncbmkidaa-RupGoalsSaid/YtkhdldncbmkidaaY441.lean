/- Some texts of the library, one behind the other. -/
import Derived.Test.YtkhdldncbmkidaaY439
import Derived.Test.YtkhdldncbmkidaaY4RuWH
import Derived.Test.YtkhdldncbmkidaaY42
set_option linter.unusedSimpArgs false
set_option linter.unusedVariables false
section
namespace Go.Proofs.Ytkhdldncbmkidaa
open Go Go.Sx Go.RowKit Go.Ru Go.Cl Go.St
set_option maxRecDepth 100000
set_option maxHeartbeats 8000000

theorem qqv (cs:List (List Int)) (p:List Ln) (goal:List Int):qgz cs p goal=if cs.all rightB && rightB goal then (if (qaf cs 0 p).1=0 then (if (qaf cs 0 p).2.any (fun d=>qbo d goal) || qak (qaf cs 0 p).2 goal then 0 else (p.length:Int)+1) else (qaf cs 0 p).1) else -1:=by
 unfold qgz
 split
 ·obtain ⟨n,th⟩:=qaf cs 0 p
  by_cases h:n=0
  ·subst h;rfl
  ·rw [ze h]
   split
   ·rename_i h'
    exact absurd (congrArg Prod.fst h') h
   ·rename_i h'
    exact (congrArg Prod.fst h').symm
 ·rfl
theorem qxn (th:List (List Int)) (i:Nat) (l:Ln) (r:List Ln):qaf th i (l::r)=if rightB l.c then (if l.del then (match qbp l.c th with|some k=>qaf (th.eraseIdx k) (i+1) r|none=>((i:Int)+1,th)) else if qak th l.c then qaf (th++[l.c]) (i+1) r else ((i:Int)+1,th)) else ((i:Int)+1,th):=by
 obtain ⟨del,c⟩:=l
 cases del <;> rfl
end Go.Proofs.Ytkhdldncbmkidaa
end
section
namespace Go.Proofs.Ytkhdldncbmkidaa
open List renaming getD_eq_getElem?_getD → zd
open Go Go.Sx Go.RowKit Go.Ru Go.Cl Go.St
set_option maxRecDepth 100000
set_option maxHeartbeats 8000000
def qdv (cs:List (List Int)) (n v:Int):Bool:=decide ((cs.length:Int)≤n) && cs.all fun c=>decide ((c.length:Int)≤30) && decide (qe [c]≤v)
theorem qxo {cs:List (List Int)} {n v:Int} {i:Nat} (hi:i<cs.length) (h:¬ (((cs.getD i []).length:Int)≤30∧qe [cs.getD i []]≤v)):qdv cs n v=false:=by
 rw [Bool.eq_false_iff]
 intro k
 unfold qdv at k
 rw [zh] at k
 have:=List.all_eq_true.1 k.2 _ (qgr cs i [] hi)
 rw [zh,xm,xm] at this
 exact h this
theorem jjg {cs:List (List Int)} {n v:Int} (h:qdv cs n v=true):(cs.length:Int)≤n∧∀ c∈cs,c.length≤30∧qe [c]≤v:=by
 unfold qdv at h
 rw [zh,xm] at h
 refine ⟨h.1,fun c hc=>?_⟩
 have:=List.all_eq_true.1 h.2 c hc
 rw [zh,xm,xm] at this
 exact ⟨by omega,this.2⟩
theorem jjh (cs:List (List Int)) (n v:Int) (hn:n≤1000000):Con Try.prog 9 [qbh cs,iv n,iv v] (.bool (qdv cs n v)):=by
 by_cases hl:(cs.length:Int)≤n
 ·refine zK {} 300 Try.func9 (fun c0 rdb=>?_)
  (repeat' ((conv=>whnf);first|refine zA ?_|refine zO ?_|refine Ob.auto ?_|refine zD 300 ?_|(apply zB <;> intro hb <;> (try simp [-zd] at hb) <;> try (exfalso;omega))|refine Ob.intro ?_ ?_))
  ((conv=>whnf);refine jk (fun _=>rfl) 300 1 (fun i:Nat=>[(7,iv i)]) (fun _=>[]) (fun i=>i≤cs.length∧∀ j,j<i→((cs.getD j []).length:Int)≤30∧qe [cs.getD j []]≤v) (fun i=>cs.length - i) (0) (⟨xa _,fun j hj=>absurd hj (zu j)⟩) qa qa (fun _=>rfl) (by kernel_rfl) ?_;(conv=>whnf))
  rintro i ⟨hi,hp⟩
  by_cases hil:i<cs.length
  ·by_cases hlen:(cs.getD i []).length≤30
   ·have h1:=jhk [cs.getD i []] (Nat.le_of_ble_eq_true rfl) (fun c hc=>by simp only [zk] at hc;subst hc;omega)
    have hle:Le (.slc 1 (((i:Int)+1).toNat - (i:Int).toNat) fun k=>encL (fun l=>[ints l]) [] cs ((i:Int).toNat+k)) (qbh [cs.getD i []]):=Le.slc (by show _=1;omega) fun k hk=>by
     have hk:k=0:=by omega
     subst hk
     rfl
    (repeat' ((conv=>whnf);first|refine zA ?_|refine zO ?_|refine Ob.auto ?_|refine zI ?_|refine zD 300 ?_|(apply zB <;> intro hb <;> (try simp [-zd] at hb) <;> try (exfalso;omega))|refine Ob.intro ?_ ?_))
    ((conv=>whnf);refine qfd (fun _=>rfl) 300 (fun _=>h1) (by rfl) (fun hg=>⟨(Le.cnd hg).trans hle,trivial⟩) (by kernel_rfl) ?_)
    (repeat' ((conv=>whnf);first|refine zA ?_|refine zO ?_|refine Ob.auto ?_|refine zI ?_|refine zD 300 ?_|(apply zB <;> intro hb <;> (try simp [-zd] at hb) <;> try (exfalso;omega))|refine Ob.intro ?_ ?_))
    ·refine Le.of_eq (congrArg AV.bool (qxo hil fun h=>?_).symm)
     omega
    ·((conv=>whnf);refine ⟨i+1,⟨by omega,qkx hp hb⟩,⟨qa,qa⟩,⟨qa,qa⟩,?_⟩;(first|omega|(dsimp only;omega)|skip))
   ·(repeat' ((conv=>whnf);first|refine zA ?_|refine zO ?_|refine Ob.auto ?_|refine zI ?_|refine zD 300 ?_|(apply zB <;> intro hb <;> (try simp [-zd] at hb) <;> try (exfalso;omega))|refine Ob.intro ?_ ?_))
    have hno:(!decide ((30:Int)<((cs.getD (i:Int).toNat []).length:Int)))=true→Con Try.prog 12 [.slc 1 (((i:Int)+1).toNat - (i:Int).toNat) fun k=>encL (fun l=>[ints l]) [] cs ((i:Int).toNat+k)] (iv 0):=fun h=>by
     simp [-zd] at h;omega
    ((conv=>whnf);refine qfd (fun _=>rfl) 300 (fun hg=>hno hg) (by rfl) (fun hg=>⟨Le.cnd hg,trivial⟩) (by kernel_rfl) ?_)
    (repeat' ((conv=>whnf);first|refine zA ?_|refine zO ?_|refine Ob.auto ?_|refine zI ?_|refine zD 300 ?_|(apply zB <;> intro hb <;> (try simp [-zd] at hb) <;> try (exfalso;omega))|refine Ob.intro ?_ ?_))
    refine Le.of_eq (congrArg AV.bool (qxo hil fun h=>?_).symm)
    omega
  ·obtain rfl:i=cs.length:=by omega
   (repeat' ((conv=>whnf);first|refine zA ?_|refine zO ?_|refine Ob.auto ?_|refine zI ?_|refine zD 300 ?_|(apply zB <;> intro hb <;> (try simp [-zd] at hb) <;> try (exfalso;omega))|refine Ob.intro ?_ ?_))
   refine Le.of_eq (congrArg AV.bool ?_)
   unfold qdv
   rw [zam hl,zbi]
   refine (List.all_eq_true.2 fun c hc=>?_).symm
   obtain ⟨j,hj,rfl⟩:=List.mem_iff_getElem.1 hc
   have:=hp j hj
   rw [zd,zb hj] at this
   rw [zh,xm,xm]
   exact this
 ·refine zK {} 300 Try.func9 (fun c0 rdb=>?_)
  (repeat' ((conv=>whnf);first|refine zA ?_|refine zO ?_|refine Ob.auto ?_|refine zD 300 ?_|(apply zB <;> intro hb <;> (try simp [-zd] at hb) <;> try (exfalso;omega))|refine Ob.intro ?_ ?_))
  unfold qdv
  rw [decide_eq_false hl,Bool.false_and]
  exact Le.refl _
theorem lit2 {f:Nat→List AV} {a b:Int} (h0:f 0=[iv a]) (h1:f 1=[iv b]):Le (.slc 1 2 f) (ints [a,b]):=Le.slc rfl fun i hi=>by
 have hi:i<2:=hi
 match i,hi with
 | 0,_=>exact h0
 | 1,_=>exact h1
theorem litA {f:Nat→List AV} {a b:List Int} {x y:AV} (h0:f 0=[x]) (h1:f 1=[y]) (k0:Le x (ints a)) (k1:Le y (ints b)):Le (.slc 1 2 f) (qbh [a,b]):=Le.slcL rfl fun i hi=>by
 have hi:i<2:=hi
 match i,hi with
 | 0,_=>rw [h0];exact ⟨k0,trivial⟩
 | 1,_=>rw [h1];exact ⟨k1,trivial⟩
theorem ex_f1:qdu [[1,2],[-1,2]] [2]=true:=by
 rw [qwq (by decide) (by decide)]
 decide +kernel
theorem ex_f2:qdu [[1,2],[-1,2]] [1]=false:=by
 rw [qwq (by decide) (by decide)]
 decide +kernel
theorem ex_r1:qak [[1,2],[-1,2]] [2]=true:=by decide +kernel
theorem ex_r2:qak [[1,2],[-1,2]] [1]=false:=by decide +kernel
theorem qxp {d c:List Int} (hd:rightB d=true) (hc:rightB c=true) {x:Int} (h1:x∈d) (h2:x ∉ c):qbo d c=false:=by
 cases h:qbo d c with
 | false=>rfl
 | true=>
  have:=(qft hd hc).1 h
  exact absurd (norm_mem.1 (this ▸ norm_mem.2 h1)) h2
theorem ex_c1:qcd [[1,2],[-1,2]] [] [2]=0:=by
 rw [qqm (by decide) (by decide) (by simp),qqv]
 show (if (true && true)=true then (if (0:Int)=0 then (if (_ || qak [[1,2],[-1,2]] [2])=true then (0:Int) else _) else _) else -1)=0
 rw [ex_r1,Bool.or_true];rfl
theorem ex_c2:qcd [[1,2],[-1,2]] [] [1]=1:=by
 rw [qqm (by decide) (by decide) (by simp),qqv]
 show (if (true && true)=true then (if (0:Int)=0 then (if ((qbo [1,2] [1] || (qbo [-1,2] [1] || false)) || qak [[1,2],[-1,2]] [1])=true then (0:Int) else _) else _) else -1)=1
 rw [ex_r2,qxp (x:=2) rfl rfl (by decide) (by decide),qxp (x:=2) rfl rfl (by decide) (by decide)];rfl
theorem qcf:Con Try.prog 8 [] (.bool true):=by
 have h1:=qxl [[1,2],[-1,2]] [2] (by decide) (by decide) (by decide)
 have h2:=qxl [[1,2],[-1,2]] [1] (by decide) (by decide) (by decide)
 have h3:=qms [[1,2],[-1,2]] [] [2] (by decide) (by decide) (by simp) (by decide)
 have h4:=qms [[1,2],[-1,2]] [] [1] (by decide) (by decide) (by simp) (by decide)
 rw [ex_f1] at h1
 rw [ex_f2] at h2
 rw [ex_c1] at h3
 rw [ex_c2] at h4
 refine zK {} 300 Try.func8 (fun c0 rdb=>?_)
 (repeat' ((conv=>whnf);first|refine zO ?_|refine Ob.auto ?_|(apply zB <;> intro hb <;> (try simp [-zd] at hb) <;> try (exfalso;omega))|refine Ob.intro ?_ ?_))
 ((conv=>whnf);refine qbi (fun _=>rfl) 300 h1 (by rfl) ⟨litA rfl rfl (lit2 rfl rfl) (lit2 rfl rfl),qmr rfl,trivial⟩ (by kernel_rfl) ?_)
 (repeat' ((conv=>whnf);first|refine zO ?_|refine Ob.auto ?_|(apply zB <;> intro hb <;> (try simp [-zd] at hb) <;> try (exfalso;omega))|refine Ob.intro ?_ ?_))
 ((conv=>whnf);refine qfd (fun _=>rfl) 300 (fun _=>h2) (by rfl) (fun hg=>⟨(Le.cnd hg).trans (litA rfl rfl (lit2 rfl rfl) (lit2 rfl rfl)),(Le.cnd hg).trans (qmr rfl),trivial⟩) (by kernel_rfl) ?_)
 (repeat' ((conv=>whnf);first|refine zO ?_|refine Ob.auto ?_|(apply zB <;> intro hb <;> (try simp [-zd] at hb) <;> try (exfalso;omega))|refine Ob.intro ?_ ?_))
 ((conv=>whnf);refine qfd (fun _=>rfl) 300 (fun _=>h3) (by rfl) (fun hg=>⟨(Le.cnd hg).trans (litA rfl rfl (lit2 rfl rfl) (lit2 rfl rfl)),Le.nils _ _,(Le.cnd hg).trans (qmr rfl),trivial⟩) (by kernel_rfl) ?_)
 (repeat' ((conv=>whnf);first|refine zO ?_|refine Ob.auto ?_|(apply zB <;> intro hb <;> (try simp [-zd] at hb) <;> try (exfalso;omega))|refine Ob.intro ?_ ?_))
 ((conv=>whnf);refine qfd (fun _=>rfl) 300 (fun _=>h4) (by rfl) (fun hg=>⟨(Le.cnd hg).trans (litA rfl rfl (lit2 rfl rfl) (lit2 rfl rfl)),Le.nils _ _,(Le.cnd hg).trans (qmr rfl),trivial⟩) (by kernel_rfl) ?_)
 (repeat' ((conv=>whnf);first|refine zO ?_|refine Ob.auto ?_|(apply zB <;> intro hb <;> (try simp [-zd] at hb) <;> try (exfalso;omega))|refine Ob.intro ?_ ?_))
 exact Le.refl _
end Go.Proofs.Ytkhdldncbmkidaa
end
section
namespace Go.Proofs.Ytkhdldncbmkidaa
open Go Go.Sx Go.RowKit Go.Ru Go.Cl Go.St
set_option maxRecDepth 100000
theorem jji {cs:List (List Int)} {c:List Int} (hr:cs.all rightB=true) (hc:c∈cs):qak cs c=true:=by
 unfold qak
 have hB:qiz cs (negs c)=true:=confR_iff.2 (.inr ⟨c,hc,fun m hm=>.base (List.mem_map.2 ⟨m,hm,rfl⟩)⟩)
 rw [hr,List.all_eq_true.1 hr c hc,hB];rfl
theorem qxq {cs:List (List Int)}:∀ (q:List (List Int)) (th:List (List Int)) (i:Nat) (r:List Ln),(∀ c∈cs,c∈th)→th.all rightB=true→(∀ c∈q,c∈cs)→qaf th i (q.map (fun c=>⟨false,c⟩)++r)=qaf (th++q) (i+q.length) r
 | [],th,i,r,_,_,_=>by simp
 | c::q,th,i,r,h1,h2,h3=>by
  have hc:=h1 c (h3 c (xu ..))
  have hcr:=List.all_eq_true.1 h2 c hc
  rw [xr,List.cons_append,qxn,za hcr,ze (by simp),za (jji h2 hc)]
  rw [qxq q (th++[c]) (i+1) r (fun d hd=>xy _ (h1 d hd)) (by rw [List.all_append,h2];simp [hcr]) (fun d hd=>h3 d (xk _ hd))]
  rw [xd,List.singleton_append,xj,Nat.add_right_comm,zbj]
theorem qxr {cs:List (List Int)} (hcs:cs.all rightB=true):∀ (q:List (List Int)) (th:List (List Int)) (i:Nat),th.all rightB=true→q.all rightB=true→(th.map normL).Perm ((cs++q).map normL)→∃ th',qaf th i (q.map (fun c=>⟨true,c⟩))=(0,th')∧th'.all rightB=true∧(th'.map normL).Perm (cs.map normL)
 | [],th,i,h1,_,h2=>⟨th,rfl,h1,by rw [zaq] at h2;exact h2⟩
 | c::q,th,i,h1,hq,h2=>by
  rw [zbm,zh] at hq
  rw [xr,qxn,za hq.1,za rfl]
  have hin:normL c∈th.map normL:=h2.mem_iff.2 (List.mem_map.2 ⟨c,List.mem_append_right _ (xu ..),rfl⟩)
  obtain ⟨d,hd,he⟩:=List.mem_map.1 hin
  cases hla:qbp c th with
  | none=>
   have:=qqi hla d hd
   rw [(qft (List.all_eq_true.1 h1 d hd) hq.1).2 he] at this
   cases this
  | some k=>
   obtain ⟨hk,hs⟩:=qqj hla
   have hkr:rightB (th.getD k [])=true:=List.all_eq_true.1 h1 _ (qg hk)
   have hkn:=(qft hkr hq.1).1 hs
   refine qxr hcs q (th.eraseIdx k) (i+1) (List.all_eq_true.2 fun d hd=>List.all_eq_true.1 h1 d (List.mem_of_mem_eraseIdx hd)) hq.2 ?_
   have hp:=(qwn hk).map normL
   rw [xr] at hp
   have hg:th[k]=th.getD k []:=by rw [xc,zb hk];rfl
   rw [hg,hkn] at hp
   have hp2:((cs++c::q).map normL).Perm (normL c::(cs++q).map normL):=by
    rw [← xr]
    exact List.Perm.map _ List.perm_middle
   exact List.Perm.cons_inv (hp.trans (h2.trans hp2))
theorem jjj {cs:List (List Int)} (hcs:cs.all rightB=true) {q:List (List Int)} (hq:∀ c∈q,c∈cs) {g:List Int} (hg:g∈cs):qgz cs (q.map (fun c=>⟨false,c⟩)++q.map (fun c=>⟨true,c⟩)) g=0:=by
 have hqr:q.all rightB=true:=List.all_eq_true.2 fun c hc=>List.all_eq_true.1 hcs c (hq c hc)
 have hgr:=List.all_eq_true.1 hcs g hg
 obtain ⟨th',h1,h2,h3⟩:=qxr hcs q (cs++q) (0+q.length) (by rw [List.all_append,hcs,hqr];rfl) hqr (.refl _)
 have hl:qaf cs 0 (q.map (fun c=>⟨false,c⟩)++q.map (fun c=>⟨true,c⟩))=(0,th'):=by rw [qxq q cs 0 _ (fun _ h=>h) hcs hq,h1]
 have hin:normL g∈th'.map normL:=h3.mem_iff.2 (List.mem_map.2 ⟨g,hg,rfl⟩)
 obtain ⟨d,hd,he⟩:=List.mem_map.1 hin
 have hs:th'.any (fun d=>qbo d g)=true:=List.any_eq_true.2 ⟨d,hd,(qft (List.all_eq_true.1 h2 d hd) hgr).2 he⟩
 rw [qqv,hl,hcs,hgr]
 show (if (true && true)=true then (if (0:Int)=0 then (if (th'.any (fun d=>qbo d g) || qak th' g)=true then (0:Int) else _) else _) else -1)=0
 rw [hs];rfl
set_option maxHeartbeats 8000000
theorem jjk {cs:List (List Int)} {n v:Int} (hn:n≤100000) (h:qdv cs n v=true):cs.length≤100000∧(∀ c∈cs,c.length≤30)∧(cs.length:Int)≤n:=by
 obtain ⟨h1,h2⟩:=jjg h
 exact ⟨by omega,fun c hc=>(h2 c hc).1,h1⟩


end Go.Proofs.Ytkhdldncbmkidaa
end
