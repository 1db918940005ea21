/- Some texts of the library, one behind the other. -/
import Derived.Test.YtkhdldncbmkidaaY238
import Derived.Test.YtkhdldncbmkidaaY22
set_option linter.unusedSimpArgs false
set_option linter.unusedVariables false
section
namespace Go.Proofs.Ytkhdldncbmkidaa
open List renaming getD_eq_getElem?_getD → zd
open Go Go.Sx Go.RowKit Go.Ru Go.Cl Go.St
set_option maxRecDepth 100000
set_option maxHeartbeats 8000000
def qea (cs:List (List Int)) (n v:Int):Bool:=decide ((cs.length:Int)≤n) && cs.all fun c=>decide ((c.length:Int)≤30) && decide (qe [c]≤v)
theorem qya {cs:List (List Int)} {n v:Int} {i:Nat} (hi:i<cs.length) (h:¬ (((cs.getD i []).length:Int)≤30∧qe [cs.getD i []]≤v)):qea cs n v=false:=by
 rw [zbm]
 intro k
 unfold qea at k
 rw [zh] at k
 have:=List.all_eq_true.1 k.2 _ (qdg cs i [] hi)
 rw [zh,xn,xn] at this
 exact h this
theorem jkb {cs:List (List Int)} {n v:Int} (h:qea cs n v=true):(cs.length:Int)≤n∧∀ c∈cs,c.length≤30∧qe [c]≤v:=by
 unfold qea at h
 rw [zh,xn] at h
 refine ⟨h.1,fun c hc=>?_⟩
 have:=List.all_eq_true.1 h.2 c hc
 rw [zh,xn,xn] at this
 exact ⟨by omega,this.2⟩
theorem jkc (cs:List (List Int)) (n v:Int) (hn:n≤1000000):Con Try.prog 9 [qah cs,iv n,iv v] (.bool (qea cs n v)):=by
 by_cases hl:(cs.length:Int)≤n
 ·refine zK {} 300 Try.func9 (fun c0 rdb=>?_)
  (repeat' ((conv=>whnf);first|refine zA ?_|refine zO ?_|refine Ob.auto ?_|refine zD 300 ?_|(apply zB <;> intro hb <;> (try simp [-zd] at hb) <;> try (exfalso;omega))|refine Ob.intro ?_ ?_))
  ((conv=>whnf);refine ja (fun _=>rfl) 300 1 (fun i:Nat=>[(7,iv i)]) (fun _=>[]) (fun i=>i≤cs.length∧∀ j,j<i→((cs.getD j []).length:Int)≤30∧qe [cs.getD j []]≤v) (fun i=>cs.length - i) (0) (⟨zx _,fun j hj=>absurd hj (zp j)⟩) qa qa (fun _=>rfl) (by kernel_rfl) ?_;(conv=>whnf))
  rintro i ⟨hi,hp⟩
  by_cases hil:i<cs.length
  ·by_cases hlen:(cs.getD i []).length≤30
   ·have h1:=qxc [cs.getD i []] (Nat.le_of_ble_eq_true rfl) (fun c hc=>by simp only [zk] at hc;subst hc;omega)
    have hle:Le (.slc 1 (((i:Int)+1).toNat - (i:Int).toNat) fun k=>encL (fun l=>[ints l]) [] cs ((i:Int).toNat+k)) (qah [cs.getD i []]):=Le.slc (by show _=1;omega) fun k hk=>by
     have hk:k=0:=by omega
     subst hk
     rfl
    (repeat' ((conv=>whnf);first|refine zA ?_|refine zO ?_|refine Ob.auto ?_|refine zI ?_|refine zD 300 ?_|(apply zB <;> intro hb <;> (try simp [-zd] at hb) <;> try (exfalso;omega))|refine Ob.intro ?_ ?_))
    ((conv=>whnf);refine qel (fun _=>rfl) 300 (fun _=>h1) (by rfl) (fun hg=>⟨(Le.cnd hg).trans hle,trivial⟩) (by kernel_rfl) ?_)
    (repeat' ((conv=>whnf);first|refine zA ?_|refine zO ?_|refine Ob.auto ?_|refine zI ?_|refine zD 300 ?_|(apply zB <;> intro hb <;> (try simp [-zd] at hb) <;> try (exfalso;omega))|refine Ob.intro ?_ ?_))
    ·refine Le.of_eq (congrArg AV.bool (qya hil fun h=>?_).symm)
     omega
    ·((conv=>whnf);refine ⟨i+1,⟨by omega,qer hp hb⟩,⟨qa,qa⟩,⟨qa,qa⟩,?_⟩;(first|omega|(dsimp only;omega)|skip))
   ·(repeat' ((conv=>whnf);first|refine zA ?_|refine zO ?_|refine Ob.auto ?_|refine zI ?_|refine zD 300 ?_|(apply zB <;> intro hb <;> (try simp [-zd] at hb) <;> try (exfalso;omega))|refine Ob.intro ?_ ?_))
    have hno:(!decide ((30:Int)<((cs.getD (i:Int).toNat []).length:Int)))=true→Con Try.prog 12 [.slc 1 (((i:Int)+1).toNat - (i:Int).toNat) fun k=>encL (fun l=>[ints l]) [] cs ((i:Int).toNat+k)] (iv 0):=fun h=>by
     simp [-zd] at h;omega
    ((conv=>whnf);refine qel (fun _=>rfl) 300 (fun hg=>hno hg) (by rfl) (fun hg=>⟨Le.cnd hg,trivial⟩) (by kernel_rfl) ?_)
    (repeat' ((conv=>whnf);first|refine zA ?_|refine zO ?_|refine Ob.auto ?_|refine zI ?_|refine zD 300 ?_|(apply zB <;> intro hb <;> (try simp [-zd] at hb) <;> try (exfalso;omega))|refine Ob.intro ?_ ?_))
    refine Le.of_eq (congrArg AV.bool (qya hil fun h=>?_).symm)
    omega
  ·obtain rfl:i=cs.length:=by omega
   (repeat' ((conv=>whnf);first|refine zA ?_|refine zO ?_|refine Ob.auto ?_|refine zI ?_|refine zD 300 ?_|(apply zB <;> intro hb <;> (try simp [-zd] at hb) <;> try (exfalso;omega))|refine Ob.intro ?_ ?_))
   refine Le.of_eq (congrArg AV.bool ?_)
   unfold qea
   rw [xx hl,zbc]
   refine (List.all_eq_true.2 fun c hc=>?_).symm
   obtain ⟨j,hj,rfl⟩:=List.mem_iff_getElem.1 hc
   have:=hp j hj
   rw [zd,zb hj] at this
   rw [zh,xn,xn]
   exact this
 ·refine zK {} 300 Try.func9 (fun c0 rdb=>?_)
  (repeat' ((conv=>whnf);first|refine zA ?_|refine zO ?_|refine Ob.auto ?_|refine zD 300 ?_|(apply zB <;> intro hb <;> (try simp [-zd] at hb) <;> try (exfalso;omega))|refine Ob.intro ?_ ?_))
  unfold qea
  rw [zal hl,Bool.false_and]
  exact Le.refl _
theorem lit2 {f:Nat→List AV} {a b:Int} (h0:f 0=[iv a]) (h1:f 1=[iv b]):Le (.slc 1 2 f) (ints [a,b]):=Le.slc rfl fun i hi=>by
 have hi:i<2:=hi
 match i,hi with
 | 0,_=>exact h0
 | 1,_=>exact h1
theorem litA {f:Nat→List AV} {a b:List Int} {x y:AV} (h0:f 0=[x]) (h1:f 1=[y]) (k0:Le x (ints a)) (k1:Le y (ints b)):Le (.slc 1 2 f) (qah [a,b]):=Le.slcL rfl fun i hi=>by
 have hi:i<2:=hi
 match i,hi with
 | 0,_=>rw [h0];exact ⟨k0,trivial⟩
 | 1,_=>rw [h1];exact ⟨k1,trivial⟩
theorem ex_f1:qdy [[1,2],[-1,2]] [2]=true:=by
 rw [qqn (by decide) (by decide)]
 decide +kernel
theorem ex_f2:qdy [[1,2],[-1,2]] [1]=false:=by
 rw [qqn (by decide) (by decide)]
 decide +kernel
theorem ex_r1:jn [[1,2],[-1,2]] [2]=true:=by decide +kernel
theorem ex_r2:jn [[1,2],[-1,2]] [1]=false:=by decide +kernel
theorem qyb {d c:List Int} (hd:rightB d=true) (hc:rightB c=true) {x:Int} (h1:x∈d) (h2:x ∉ c):qcf d c=false:=by
 cases h:qcf d c with
 | false=>rfl
 | true=>
  have:=(qmm hd hc).1 h
  exact absurd (norm_mem.1 (this ▸ norm_mem.2 h1)) h2
theorem ex_c1:qdl [[1,2],[-1,2]] [] [2]=0:=by
 rw [qwu (by decide) (by decide) (by simp),qxz]
 show (if (true && true)=true then (if (0:Int)=0 then (if (_ || jn [[1,2],[-1,2]] [2])=true then (0:Int) else _) else _) else -1)=0
 rw [ex_r1,Bool.or_true];rfl
theorem ex_c2:qdl [[1,2],[-1,2]] [] [1]=1:=by
 rw [qwu (by decide) (by decide) (by simp),qxz]
 show (if (true && true)=true then (if (0:Int)=0 then (if ((qcf [1,2] [1] || (qcf [-1,2] [1] || false)) || jn [[1,2],[-1,2]] [1])=true then (0:Int) else _) else _) else -1)=1
 rw [ex_r2,qyb (x:=2) rfl rfl (by decide) (by decide),qyb (x:=2) rfl rfl (by decide) (by decide)];rfl
theorem qat:Con Try.prog 8 [] (.bool true):=by
 have h1:=qqw [[1,2],[-1,2]] [2] (by decide) (by decide) (by decide)
 have h2:=qqw [[1,2],[-1,2]] [1] (by decide) (by decide) (by decide)
 have h3:=qxx [[1,2],[-1,2]] [] [2] (by decide) (by decide) (by simp) (by decide)
 have h4:=qxx [[1,2],[-1,2]] [] [1] (by decide) (by decide) (by simp) (by decide)
 rw [ex_f1] at h1
 rw [ex_f2] at h2
 rw [ex_c1] at h3
 rw [ex_c2] at h4
 refine zK {} 300 Try.func8 (fun c0 rdb=>?_)
 (repeat' ((conv=>whnf);first|refine zO ?_|refine Ob.auto ?_|(apply zB <;> intro hb <;> (try simp [-zd] at hb) <;> try (exfalso;omega))|refine Ob.intro ?_ ?_))
 ((conv=>whnf);refine qbj (fun _=>rfl) 300 h1 (by rfl) ⟨litA rfl rfl (lit2 rfl rfl) (lit2 rfl rfl),qjf rfl,trivial⟩ (by kernel_rfl) ?_)
 (repeat' ((conv=>whnf);first|refine zO ?_|refine Ob.auto ?_|(apply zB <;> intro hb <;> (try simp [-zd] at hb) <;> try (exfalso;omega))|refine Ob.intro ?_ ?_))
 ((conv=>whnf);refine qel (fun _=>rfl) 300 (fun _=>h2) (by rfl) (fun hg=>⟨(Le.cnd hg).trans (litA rfl rfl (lit2 rfl rfl) (lit2 rfl rfl)),(Le.cnd hg).trans (qjf rfl),trivial⟩) (by kernel_rfl) ?_)
 (repeat' ((conv=>whnf);first|refine zO ?_|refine Ob.auto ?_|(apply zB <;> intro hb <;> (try simp [-zd] at hb) <;> try (exfalso;omega))|refine Ob.intro ?_ ?_))
 ((conv=>whnf);refine qel (fun _=>rfl) 300 (fun _=>h3) (by rfl) (fun hg=>⟨(Le.cnd hg).trans (litA rfl rfl (lit2 rfl rfl) (lit2 rfl rfl)),Le.nils _ _,(Le.cnd hg).trans (qjf rfl),trivial⟩) (by kernel_rfl) ?_)
 (repeat' ((conv=>whnf);first|refine zO ?_|refine Ob.auto ?_|(apply zB <;> intro hb <;> (try simp [-zd] at hb) <;> try (exfalso;omega))|refine Ob.intro ?_ ?_))
 ((conv=>whnf);refine qel (fun _=>rfl) 300 (fun _=>h4) (by rfl) (fun hg=>⟨(Le.cnd hg).trans (litA rfl rfl (lit2 rfl rfl) (lit2 rfl rfl)),Le.nils _ _,(Le.cnd hg).trans (qjf rfl),trivial⟩) (by kernel_rfl) ?_)
 (repeat' ((conv=>whnf);first|refine zO ?_|refine Ob.auto ?_|(apply zB <;> intro hb <;> (try simp [-zd] at hb) <;> try (exfalso;omega))|refine Ob.intro ?_ ?_))
 exact Le.refl _
end Go.Proofs.Ytkhdldncbmkidaa
end
section
namespace Go.Proofs.Ytkhdldncbmkidaa
open Go Go.Sx Go.RowKit Go.Ru Go.Cl Go.St
set_option maxRecDepth 100000
theorem qqx (m:List Bool) {l:Int} (h:l≠0):Cl.isTrue m (-l)=!Cl.isTrue m l:=by
 have e:absI (-l)=absI l:=by unfold absI;split <;> split <;> omega
 unfold Cl.isTrue
 rw [e]
 by_cases h2:0<l
 ·rw [zal (by omega:¬ 0 < -l),xx h2]
  cases (decide (absI l≤m.length) && m.getD (absI l - 1).toNat false) <;> rfl
 ·rw [xx (by omega:0 < -l),zal h2]
  cases (decide (absI l≤m.length) && m.getD (absI l - 1).toNat false) <;> rfl
theorem holds_iff {c:List Int} {m:List Bool}:qcv c m=true↔∃ l∈c,litB l=true∧Cl.isTrue m l=true:=by
 unfold qcv
 rw [zas]
 simp only [zh]
theorem jkd {cs:List (List Int)} {c:List Int} {m:List Bool} (h:jn cs c=true) (hm:∀ d∈cs,qcv d m=true):qcv c m=true:=by
 unfold jn at h
 rw [zh,zh] at h
 obtain ⟨⟨h1,h2⟩,h3⟩:=h
 have hB:=confR_iff.1 h3
 cases hh:qcv c m with
 | true=>rfl
 | false=>
  refine absurd hB (Bad.model (T:=fun l=>l≠0∧Cl.isTrue m l=true) (fun l hl hn=>?_) (fun d hd=>?_) (fun l hl=>?_))
  ·have:=qqx m hl.1
   have hn2:Cl.isTrue m (-l)=true:=hn.2
   rw [hn2,hl.2] at this
   cases this
  ·obtain ⟨l,h4,h5,h6⟩:=holds_iff.1 (hm d hd)
   exact ⟨l,h4,((qag l).1 h5).1,h6⟩
  ·obtain ⟨x,hx,rfl⟩:=List.mem_map.1 hl
   have hxl:=List.all_eq_true.1 h2 x hx
   have hx0:=((qag x).1 hxl).1
   refine ⟨by omega,?_⟩
   rw [qqx m hx0]
   cases ht:Cl.isTrue m x with
   | false=>rfl
   | true=>
    rw [holds_iff.2 ⟨x,hx,hxl,ht⟩] at hh
    cases hh
def offL (c:List Int):List (List Int):=c.map fun l=>[-l]
theorem jke {cs:List (List Int)} {c:List Int} {v:Nat} (h:∀ m,(∀ d∈cs,qcv d m=true)→qcv c m=true):qjg (cs++offL c) v=false:=by
 unfold qjg
 rw [List.any_eq_false]
 intro x _ ha
 unfold allB at ha
 have ha:=List.all_eq_true.1 ha
 obtain ⟨l,h1,h2,h3⟩:=holds_iff.1 (h (qax x v) fun d hd=>ha d (xu _ hd))
 obtain ⟨k,h4,h5,h6⟩:=holds_iff.1 (ha [-l] (List.mem_append_right _ (List.mem_map.2 ⟨l,h1,rfl⟩)))
 rw [zk] at h4
 subst h4
 rw [qqx _ ((qag l).1 h2).1,h3] at h6
 cases h6
theorem jkf {cs:List (List Int)} {c:List Int} {v:Nat} (h:jn cs c=true):qjg (cs++offL c) v=false:=jke fun _ hm=>jkd h hm
set_option maxHeartbeats 8000000
theorem jkg {cs:List (List Int)} {n v:Int} (hn:n≤100000) (h:qea cs n v=true):cs.length≤100000∧(∀ c∈cs,c.length≤30)∧(cs.length:Int)≤n:=by
 obtain ⟨h1,h2⟩:=jkb h
 exact ⟨by omega,fun c hc=>(h2 c hc).1,h1⟩
end Go.Proofs.Ytkhdldncbmkidaa
end
