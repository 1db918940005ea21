/- Some texts of the library, one behind the other. -/
import Derived.Test.YtkhdldncbmkidaaY3RuWL
import Derived.Test.YtkhdldncbmkidaaY32
set_option linter.unusedSimpArgs false
set_option linter.unusedVariables false
section
namespace Go.Proofs.Ytkhdldncbmkidaa
open List renaming getD_eq_getElem?_getD → zd
open Go Go.Sx Go.RowKit Go.Ru Go.Cl Go.St
set_option maxRecDepth 100000
set_option maxHeartbeats 8000000
def qeg (cs:List (List Int)) (n v:Int):Bool:=decide ((cs.length:Int)≤n) && cs.all fun c=>decide ((c.length:Int)≤30) && decide (qe [c]≤v)
theorem qyw {cs:List (List Int)} {n v:Int} {i:Nat} (hi:i<cs.length) (h:¬ (((cs.getD i []).length:Int)≤30∧qe [cs.getD i []]≤v)):qeg cs n v=false:=by
 rw [zbo]
 intro k
 unfold qeg at k
 rw [zh] at k
 have:=List.all_eq_true.1 k.2 _ (qdc cs i [] hi)
 rw [zh,xp,xp] at this
 exact h this
theorem jlj {cs:List (List Int)} {n v:Int} (h:qeg cs n v=true):(cs.length:Int)≤n∧∀ c∈cs,c.length≤30∧qe [c]≤v:=by
 unfold qeg at h
 rw [zh,xp] at h
 refine ⟨h.1,fun c hc=>?_⟩
 have:=List.all_eq_true.1 h.2 c hc
 rw [zh,xp,xp] at this
 exact ⟨by omega,this.2⟩
theorem jlk (cs:List (List Int)) (n v:Int) (hn:n≤1000000):Con Try.prog 9 [qak cs,iv n,iv v] (.bool (qeg cs n v)):=by
 by_cases hl:(cs.length:Int)≤n
 ·refine zK {} 300 Try.func9 (fun c0 rdb=>?_)
  (repeat' ((conv=>whnf);first|refine zA ?_|refine zO ?_|refine Ob.auto ?_|refine zD 300 ?_|(apply zB <;> intro hb <;> (try simp [-zd] at hb) <;> try (exfalso;omega))|refine Ob.intro ?_ ?_))
  ((conv=>whnf);refine qw (fun _=>rfl) 300 1 (fun i:Nat=>[(7,iv i)]) (fun _=>[]) (fun i=>i≤cs.length∧∀ j,j<i→((cs.getD j []).length:Int)≤30∧qe [cs.getD j []]≤v) (fun i=>cs.length - i) (0) (⟨zv _,fun j hj=>absurd hj (zo j)⟩) qa qa (fun _=>rfl) (by kernel_rfl) ?_;(conv=>whnf))
  rintro i ⟨hi,hp⟩
  by_cases hil:i<cs.length
  ·by_cases hlen:(cs.getD i []).length≤30
   ·have h1:=qxv [cs.getD i []] (Nat.le_of_ble_eq_true rfl) (fun c hc=>by simp only [zk] at hc;subst hc;omega)
    have hle:Le (.slc 1 (((i:Int)+1).toNat - (i:Int).toNat) fun k=>encL (fun l=>[ints l]) [] cs ((i:Int).toNat+k)) (qak [cs.getD i []]):=Le.slc (by show _=1;omega) fun k hk=>by
     have hk:k=0:=by omega
     subst hk
     rfl
    (repeat' ((conv=>whnf);first|refine zA ?_|refine zO ?_|refine Ob.auto ?_|refine zI ?_|refine zD 300 ?_|(apply zB <;> intro hb <;> (try simp [-zd] at hb) <;> try (exfalso;omega))|refine Ob.intro ?_ ?_))
    ((conv=>whnf);refine qbg (fun _=>rfl) 300 (fun _=>h1) (by rfl) (fun hg=>⟨(Le.cnd hg).trans hle,trivial⟩) (by kernel_rfl) ?_)
    (repeat' ((conv=>whnf);first|refine zA ?_|refine zO ?_|refine Ob.auto ?_|refine zI ?_|refine zD 300 ?_|(apply zB <;> intro hb <;> (try simp [-zd] at hb) <;> try (exfalso;omega))|refine Ob.intro ?_ ?_))
    ·refine Le.of_eq (congrArg AV.bool (qyw hil fun h=>?_).symm)
     omega
    ·((conv=>whnf);refine ⟨i+1,⟨by omega,qea hp hb⟩,⟨qa,qa⟩,⟨qa,qa⟩,?_⟩;(first|omega|(dsimp only;omega)|skip))
   ·(repeat' ((conv=>whnf);first|refine zA ?_|refine zO ?_|refine Ob.auto ?_|refine zI ?_|refine zD 300 ?_|(apply zB <;> intro hb <;> (try simp [-zd] at hb) <;> try (exfalso;omega))|refine Ob.intro ?_ ?_))
    have hno:(!decide ((30:Int)<((cs.getD (i:Int).toNat []).length:Int)))=true→Con Try.prog 12 [.slc 1 (((i:Int)+1).toNat - (i:Int).toNat) fun k=>encL (fun l=>[ints l]) [] cs ((i:Int).toNat+k)] (iv 0):=fun h=>by
     simp [-zd] at h;omega
    ((conv=>whnf);refine qbg (fun _=>rfl) 300 (fun hg=>hno hg) (by rfl) (fun hg=>⟨Le.cnd hg,trivial⟩) (by kernel_rfl) ?_)
    (repeat' ((conv=>whnf);first|refine zA ?_|refine zO ?_|refine Ob.auto ?_|refine zI ?_|refine zD 300 ?_|(apply zB <;> intro hb <;> (try simp [-zd] at hb) <;> try (exfalso;omega))|refine Ob.intro ?_ ?_))
    refine Le.of_eq (congrArg AV.bool (qyw hil fun h=>?_).symm)
    omega
  ·obtain rfl:i=cs.length:=by omega
   (repeat' ((conv=>whnf);first|refine zA ?_|refine zO ?_|refine Ob.auto ?_|refine zI ?_|refine zD 300 ?_|(apply zB <;> intro hb <;> (try simp [-zd] at hb) <;> try (exfalso;omega))|refine Ob.intro ?_ ?_))
   refine Le.of_eq (congrArg AV.bool ?_)
   unfold qeg
   rw [xn hl,zbc]
   refine (List.all_eq_true.2 fun c hc=>?_).symm
   obtain ⟨j,hj,rfl⟩:=List.mem_iff_getElem.1 hc
   have:=hp j hj
   rw [zd,zb hj] at this
   rw [zh,xp,xp]
   exact this
 ·refine zK {} 300 Try.func9 (fun c0 rdb=>?_)
  (repeat' ((conv=>whnf);first|refine zA ?_|refine zO ?_|refine Ob.auto ?_|refine zD 300 ?_|(apply zB <;> intro hb <;> (try simp [-zd] at hb) <;> try (exfalso;omega))|refine Ob.intro ?_ ?_))
  unfold qeg
  rw [xx hl,Bool.false_and]
  exact Le.refl _
theorem lit2 {f:Nat→List AV} {a b:Int} (h0:f 0=[iv a]) (h1:f 1=[iv b]):Le (.slc 1 2 f) (ints [a,b]):=Le.slc rfl fun i hi=>by
 have hi:i<2:=hi
 match i,hi with
 | 0,_=>exact h0
 | 1,_=>exact h1
theorem litA {f:Nat→List AV} {a b:List Int} {x y:AV} (h0:f 0=[x]) (h1:f 1=[y]) (k0:Le x (ints a)) (k1:Le y (ints b)):Le (.slc 1 2 f) (qak [a,b]):=Le.slcL rfl fun i hi=>by
 have hi:i<2:=hi
 match i,hi with
 | 0,_=>rw [h0];exact ⟨k0,trivial⟩
 | 1,_=>rw [h1];exact ⟨k1,trivial⟩
theorem ex_f1:qee [[1,2],[-1,2]] [2]=true:=by
 rw [qxm (by decide) (by decide)]
 decide +kernel
theorem ex_f2:qee [[1,2],[-1,2]] [1]=false:=by
 rw [qxm (by decide) (by decide)]
 decide +kernel
theorem ex_r1:jp [[1,2],[-1,2]] [2]=true:=by decide +kernel
theorem ex_r2:jp [[1,2],[-1,2]] [1]=false:=by decide +kernel
theorem qyx {d c:List Int} (hd:rightB d=true) (hc:rightB c=true) {x:Int} (h1:x∈d) (h2:x ∉ c):qaf d c=false:=by
 cases h:qaf d c with
 | false=>rfl
 | true=>
  have:=(qjp hd hc).1 h
  exact absurd (norm_mem.1 (this ▸ norm_mem.2 h1)) h2
theorem ex_c1:qdr [[1,2],[-1,2]] [] [2]=0:=by
 rw [qrd (by decide) (by decide) (by simp),qjw]
 show (if (true && true)=true then (if (0:Int)=0 then (if (_ || jp [[1,2],[-1,2]] [2])=true then (0:Int) else _) else _) else -1)=0
 rw [ex_r1,Bool.or_true];rfl
theorem ex_c2:qdr [[1,2],[-1,2]] [] [1]=1:=by
 rw [qrd (by decide) (by decide) (by simp),qjw]
 show (if (true && true)=true then (if (0:Int)=0 then (if ((qaf [1,2] [1] || (qaf [-1,2] [1] || false)) || jp [[1,2],[-1,2]] [1])=true then (0:Int) else _) else _) else -1)=1
 rw [ex_r2,qyx (x:=2) rfl rfl (by decide) (by decide),qyx (x:=2) rfl rfl (by decide) (by decide)];rfl
theorem qcq:Con Try.prog 8 [] (.bool true):=by
 have h1:=qym [[1,2],[-1,2]] [2] (by decide) (by decide) (by decide)
 have h2:=qym [[1,2],[-1,2]] [1] (by decide) (by decide) (by decide)
 have h3:=qro [[1,2],[-1,2]] [] [2] (by decide) (by decide) (by simp) (by decide)
 have h4:=qro [[1,2],[-1,2]] [] [1] (by decide) (by decide) (by simp) (by decide)
 rw [ex_f1] at h1
 rw [ex_f2] at h2
 rw [ex_c1] at h3
 rw [ex_c2] at h4
 refine zK {} 300 Try.func8 (fun c0 rdb=>?_)
 (repeat' ((conv=>whnf);first|refine zO ?_|refine Ob.auto ?_|(apply zB <;> intro hb <;> (try simp [-zd] at hb) <;> try (exfalso;omega))|refine Ob.intro ?_ ?_))
 ((conv=>whnf);refine jl (fun _=>rfl) 300 h1 (by rfl) ⟨litA rfl rfl (lit2 rfl rfl) (lit2 rfl rfl),qjt rfl,trivial⟩ (by kernel_rfl) ?_)
 (repeat' ((conv=>whnf);first|refine zO ?_|refine Ob.auto ?_|(apply zB <;> intro hb <;> (try simp [-zd] at hb) <;> try (exfalso;omega))|refine Ob.intro ?_ ?_))
 ((conv=>whnf);refine qbg (fun _=>rfl) 300 (fun _=>h2) (by rfl) (fun hg=>⟨(Le.cnd hg).trans (litA rfl rfl (lit2 rfl rfl) (lit2 rfl rfl)),(Le.cnd hg).trans (qjt rfl),trivial⟩) (by kernel_rfl) ?_)
 (repeat' ((conv=>whnf);first|refine zO ?_|refine Ob.auto ?_|(apply zB <;> intro hb <;> (try simp [-zd] at hb) <;> try (exfalso;omega))|refine Ob.intro ?_ ?_))
 ((conv=>whnf);refine qbg (fun _=>rfl) 300 (fun _=>h3) (by rfl) (fun hg=>⟨(Le.cnd hg).trans (litA rfl rfl (lit2 rfl rfl) (lit2 rfl rfl)),Le.nils _ _,(Le.cnd hg).trans (qjt rfl),trivial⟩) (by kernel_rfl) ?_)
 (repeat' ((conv=>whnf);first|refine zO ?_|refine Ob.auto ?_|(apply zB <;> intro hb <;> (try simp [-zd] at hb) <;> try (exfalso;omega))|refine Ob.intro ?_ ?_))
 ((conv=>whnf);refine qbg (fun _=>rfl) 300 (fun _=>h4) (by rfl) (fun hg=>⟨(Le.cnd hg).trans (litA rfl rfl (lit2 rfl rfl) (lit2 rfl rfl)),Le.nils _ _,(Le.cnd hg).trans (qjt rfl),trivial⟩) (by kernel_rfl) ?_)
 (repeat' ((conv=>whnf);first|refine zO ?_|refine Ob.auto ?_|(apply zB <;> intro hb <;> (try simp [-zd] at hb) <;> try (exfalso;omega))|refine Ob.intro ?_ ?_))
 exact Le.refl _
end Go.Proofs.Ytkhdldncbmkidaa
end
section
namespace Go.Proofs.Ytkhdldncbmkidaa
open Go Go.Sx Go.RowKit Go.Ru Go.Cl Go.St
set_option maxRecDepth 100000
theorem qrq (m:List Bool) {l:Int} (h:l≠0):Cl.isTrue m (-l)=!Cl.isTrue m l:=by
 have e:absI (-l)=absI l:=by unfold absI;split <;> split <;> omega
 unfold Cl.isTrue
 rw [e]
 by_cases h2:0<l
 ·rw [xx (by omega:¬ 0 < -l),xn h2]
  cases (decide (absI l≤m.length) && m.getD (absI l - 1).toNat false) <;> rfl
 ·rw [xn (by omega:0 < -l),xx h2]
  cases (decide (absI l≤m.length) && m.getD (absI l - 1).toNat false) <;> rfl
theorem holds_iff {c:List Int} {m:List Bool}:qbq c m=true↔∃ l∈c,litB l=true∧Cl.isTrue m l=true:=by
 unfold qbq
 rw [zat]
 simp only [zh]
theorem qyy {cs:List (List Int)} {c:List Int} {m:List Bool} (h:jp cs c=true) (hm:∀ d∈cs,qbq d m=true):qbq c m=true:=by
 unfold jp at h
 rw [zh,zh] at h
 obtain ⟨⟨h1,h2⟩,h3⟩:=h
 have hB:=confR_iff.1 h3
 cases hh:qbq c m with
 | true=>rfl
 | false=>
  refine absurd hB (Bad.model (T:=fun l=>l≠0∧Cl.isTrue m l=true) (fun l hl hn=>?_) (fun d hd=>?_) (fun l hl=>?_))
  ·have:=qrq m hl.1
   have hn2:Cl.isTrue m (-l)=true:=hn.2
   rw [hn2,hl.2] at this
   cases this
  ·obtain ⟨l,h4,h5,h6⟩:=holds_iff.1 (hm d hd)
   exact ⟨l,h4,((jy l).1 h5).1,h6⟩
  ·obtain ⟨x,hx,rfl⟩:=List.mem_map.1 hl
   have hxl:=List.all_eq_true.1 h2 x hx
   have hx0:=((jy x).1 hxl).1
   refine ⟨by omega,?_⟩
   rw [qrq m hx0]
   cases ht:Cl.isTrue m x with
   | false=>rfl
   | true=>
    rw [holds_iff.2 ⟨x,hx,hxl,ht⟩] at hh
    cases hh
def offL (c:List Int):List (List Int):=c.map fun l=>[-l]
theorem jll {cs:List (List Int)} {c:List Int} {v:Nat} (h:∀ m,(∀ d∈cs,qbq d m=true)→qbq c m=true):qju (cs++offL c) v=false:=by
 unfold qju
 rw [zbp]
 intro x _ ha
 unfold allB at ha
 have ha:=List.all_eq_true.1 ha
 obtain ⟨l,h1,h2,h3⟩:=holds_iff.1 (h (qbd x v) fun d hd=>ha d (xy _ hd))
 obtain ⟨k,h4,h5,h6⟩:=holds_iff.1 (ha [-l] (List.mem_append_right _ (List.mem_map.2 ⟨l,h1,rfl⟩)))
 rw [zk] at h4
 subst h4
 rw [qrq _ ((jy l).1 h2).1,h3] at h6
 cases h6
theorem qrr {m:List Bool}:∀ (r:List Ln) (th:List (List Int)) (i:Nat) (th':List (List Int)),linesR th i r=(0,th')→(∀ d∈th,qbq d m=true)→∀ d∈th',qbq d m=true
 | [],th,i,th',h,hm=>by
  cases h
  exact hm
 | l::r,th,i,th',h,hm=>by
  rw [qrp] at h
  have hpos:∀ t:List (List Int),((i:Int)+1,t)≠(0,th'):=fun t e=>by
   have:=congrArg Prod.fst e
   simp only at this
   omega
  split at h
  ·split at h
   ·split at h
    ·exact qrr r _ _ _ h fun d hd=>hm d (List.mem_of_mem_eraseIdx hd)
    ·exact absurd h (hpos _)
   ·split at h
    ·rename_i hf
     exact qrr r _ _ _ h fun d hd=>by
      rcases List.mem_append.1 hd with hd|hd
      ·exact hm d hd
      ·rw [zk] at hd
       subst hd
       exact qyy hf hm
    ·exact absurd h (hpos _)
  ·exact absurd h (hpos _)
theorem qrs:∀ (r:List Ln) (th:List (List Int)) (i:Nat) (th':List (List Int)),linesR th i r=(0,th')→th.all rightB=true→th'.all rightB=true
 | [],th,i,th',h,hm=>by
  cases h
  exact hm
 | l::r,th,i,th',h,hm=>by
  rw [qrp] at h
  have hpos:∀ t:List (List Int),((i:Int)+1,t)≠(0,th'):=fun t e=>by
   have:=congrArg Prod.fst e
   simp only at this
   omega
  split at h
  ·rename_i hr
   split at h
   ·split at h
    ·exact qrs r _ _ _ h (List.all_eq_true.2 fun d hd=>List.all_eq_true.1 hm d (List.mem_of_mem_eraseIdx hd))
    ·exact absurd h (hpos _)
   ·split at h
    ·exact qrs r _ _ _ h (by rw [List.all_append,hm];simp [hr])
    ·exact absurd h (hpos _)
  ·exact absurd h (hpos _)
theorem jlm {d c:List Int} {m:List Bool} (hd:rightB d=true) (hc:rightB c=true) (h:qaf d c=true) (hm:qbq d m=true):qbq c m=true:=by
 have he:=(qjp hd hc).1 h
 obtain ⟨l,h1,h2⟩:=holds_iff.1 hm
 exact holds_iff.2 ⟨l,norm_mem.1 (he ▸ norm_mem.2 h1),h2⟩
theorem jln {cs:List (List Int)} {p:List Ln} {goal:List Int} {v:Nat} (h:qdp cs p goal=0):qju (cs++offL goal) v=false:=by
 rw [qjw] at h
 split at h
 ·rename_i hv
  rw [zh] at hv
  split at h
  ·rename_i h0
   split at h
   ·rename_i h1
    refine jll fun m hm=>?_
    have hp:linesR cs 0 p=(0,(linesR cs 0 p).2):=by rw [← h0]
    have hth:=qrr p cs 0 _ hp hm
    have hrt:=qrs p cs 0 _ hp hv.1
    rw [Bool.or_eq_true] at h1
    rcases h1 with h1|h1
    ·obtain ⟨d,hd,hs⟩:=List.any_eq_true.1 h1
     exact jlm (List.all_eq_true.1 hrt d hd) hv.2 hs (hth d hd)
    ·exact qyy h1 hth
   ·omega
  ·rename_i h0
   exact absurd h h0
 ·cases h
set_option maxHeartbeats 8000000
theorem jlo {cs:List (List Int)} {n v:Int} (hn:n≤100000) (h:qeg cs n v=true):cs.length≤100000∧(∀ c∈cs,c.length≤30)∧(cs.length:Int)≤n:=by
 obtain ⟨h1,h2⟩:=jlj h
 exact ⟨by omega,fun c hc=>(h2 c hc).1,h1⟩
end Go.Proofs.Ytkhdldncbmkidaa
end
section
namespace Go.Proofs.Ytkhdldncbmkidaa
open List renaming getD_eq_getElem?_getD → zd
open Go Go.Sx Go.RowKit Go.Ru Go.Cl Go.St
set_option maxRecDepth 100000
set_option maxHeartbeats 8000000
theorem jlp {cs:List (List Int)} (h:∀ c∈cs,c.length≤30):cs.flatten.length≤30 * cs.length:=by
 induction cs with
 | nil=>exact zj _
 | cons c r ih=>
  rw [List.flatten_cons,zi,xh]
  have h1:=h c (xm ..)
  have h2:=ih fun d hd=>h d (xg _ hd)
  omega
theorem jlq {α:Type} {enc:α→List AV} {d:α} {l:List α} {x:α} {g:Nat→List AV} (hg:g 0=enc x) (k:Nat) (hk:k<l.length+1):appF 1 g l.length (encL enc d l) k=encL enc d (x::l) k:=by
 unfold appF encL
 cases k with
 | zero=>rw [za (by omega),hg];rfl
 | succ k=>
  rw [ze (by omega),za (by omega),Nat.add_sub_cancel]
  rfl
theorem jlr {α:Type} {enc:α→List AV} {d:α} {a b:List α} {f0:Nat→List AV} (k:Nat) (hk:k<a.length+b.length):appF (0+a.length) (appF 0 f0 a.length (encL enc d a)) b.length (encL enc d b) k=encL enc d (a++b) k:=by
 unfold appF encL
 rw [zd (l:=a++b)]
 by_cases h:k<a.length
 ·rw [za (by omega),ze (by omega),za (by omega),zbr,zn h,zd]
 ·rw [ze (by omega),za (by omega),zl (by omega),zd,zw]
theorem qyz (c:List Int):(offL c).length=c.length:=by unfold offL;rw [xq]
theorem jls {c:List Int} {q:Nat} (hq:q<c.length) {g:Nat→List AV} {x:AV} (hg:g 0=[x]) (hx:Le x (ints [-(c.getD q 0)])) (k:Nat) (hk:k<q+1):LeL (appF q (encL (fun d:List Int=>[ints d]) [] (offL (c.take q))) 1 g k) (encL (fun d=>[ints d]) [] (offL (c.take (q+1))) k):=by
 have hl:(offL (c.take q)).length=q:=by rw [qyz,zu];omega
 have e:offL (c.take (q+1))=offL (c.take q)++[[-(c.getD q 0)]]:=by rw [qnl hq];unfold offL;rw [zbd];rfl
 rw [e]
 unfold appF encL
 rw [qco,hl]
 by_cases h:k<q
 ·rw [za h,ze (by omega)]
  exact LeL.refl _
 ·obtain rfl:k=q:=by omega
  rw [ze h,za hk,za rfl,zad,hg]
  exact ⟨hx,trivial⟩
end Go.Proofs.Ytkhdldncbmkidaa
end
