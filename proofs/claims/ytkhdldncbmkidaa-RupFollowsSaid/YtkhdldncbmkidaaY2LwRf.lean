/- The law RupFollows. -/
import Derived.Test.YtkhdldncbmkidaaY239
import Derived.Test.YtkhdldncbmkidaaY22
set_option linter.unusedSimpArgs false
set_option linter.unusedVariables false
namespace Go.Proofs.Ytkhdldncbmkidaa
open List renaming getD_eq_getElem?_getD → zd
open Go Go.Sx Go.RowKit Go.Ru Go.Cl Go.St
set_option maxRecDepth 100000
set_option maxHeartbeats 8000000
theorem jkh {cs:List (List Int)} (h:∀ c∈cs,c.length≤30):cs.flatten.length≤30 * cs.length:=by
 induction cs with
 | nil=>exact zi _
 | cons c r ih=>
  rw [List.flatten_cons,zj,xg]
  have h1:=h c (xt ..)
  have h2:=ih fun d hd=>h d (xm _ hd)
  omega
theorem jki {α:Type} {enc:α→List AV} {d:α} {l:List α} {x:α} {g:Nat→List AV} (hg:g 0=enc x) (k:Nat) (hk:k<l.length+1):appF 1 g l.length (encL enc d l) k=encL enc d (x::l) k:=by
 unfold appF encL
 cases k with
 | zero=>rw [za (by omega),hg];rfl
 | succ k=>
  rw [ze (by omega),za (by omega),Nat.add_sub_cancel]
  rfl
theorem jkj {α:Type} {enc:α→List AV} {d:α} {a b:List α} {f0:Nat→List AV} (k:Nat) (hk:k<a.length+b.length):appF (0+a.length) (appF 0 f0 a.length (encL enc d a)) b.length (encL enc d b) k=encL enc d (a++b) k:=by
 unfold appF encL
 rw [zd (l:=a++b)]
 by_cases h:k<a.length
 ·rw [za (by omega),ze (by omega),za (by omega),Nat.sub_zero,zn h,zd]
 ·rw [ze (by omega),za (by omega),zl (by omega),zd,zy]
theorem qyc (c:List Int):(offL c).length=c.length:=by unfold offL;rw [xj]
theorem jkk {c:List Int} {q:Nat} (hq:q<c.length) {g:Nat→List AV} {x:AV} (hg:g 0=[x]) (hx:Le x (ints [-(c.getD q 0)])) (k:Nat) (hk:k<q+1):LeL (appF q (encL (fun d:List Int=>[ints d]) [] (offL (c.take q))) 1 g k) (encL (fun d=>[ints d]) [] (offL (c.take (q+1))) k):=by
 have hl:(offL (c.take q)).length=q:=by rw [qyc,zu];omega
 have e:offL (c.take (q+1))=offL (c.take q)++[[-(c.getD q 0)]]:=by rw [qmx hq];unfold offL;rw [zbd];rfl
 rw [e]
 unfold appF encL
 rw [qch,hl]
 by_cases h:k<q
 ·rw [za h,ze (by omega)]
  exact LeL.refl _
 ·obtain rfl:k=q:=by omega
  rw [ze h,za hk,za rfl,zaf,hg]
  exact ⟨hx,trivial⟩
theorem jkl (cs:List (List Int)) (c:List Int):Con Try.prog 3 [qah cs,ints c] (.bool true):=by
 have hsm:=jkc cs 40 100000 (by decide)
 by_cases hs:qea cs 40 100000=true∧c.length≤12
 ·obtain ⟨h1,h2⟩:=hs
  obtain ⟨h4,h5,h6⟩:=jkg (by decide) h1
  rw [h1] at hsm
  have hfl:=jkh h5
  have hc5:∀ d∈cs,d.length≤100000:=fun d hd=>by have:=h5 d hd;omega
  have hc1:=qqw cs c (by omega) hc5 (by omega)
  rw [qqn (by omega) hc5] at hc1
  have hc2:=jka cs c (by omega) (by omega) (by omega)
  have hbr:=jkf (cs:=cs) (c:=c) (v:=8)
  have hrt:jn cs c=true→rightB c=true:=fun h=>by
   unfold jn at h
   rw [zh,zh] at h
   exact h.1.2
  have hgc:=qxc (c::cs) (by rw [xg];omega) (fun d hd=>by
   rcases List.mem_cons.1 hd with rfl|hd
   ·omega
   ·have:=h5 d hd;omega)
  generalize jn cs c=F at hc1 hc2 hbr hrt
  cases F with
  | false=>
   refine zK {owns:=[(33,(23,1)),(6,(23,1)),(54,(23,1))]} 300 Try.func3 (fun c0 rdb=>?_)
   (repeat' ((conv=>whnf);first|refine zO ?_|refine Ob.auto ?_|(refine Ob.intro (by (first|exact ⟨by omega,by omega⟩)) ?_)|refine zC 300 (qat) ?_|refine zG 300 (fun hg=>qat) ?_|(refine CallY.con (qat) (by rfl) leA ?_)|(refine CallZ.con (fun hg=>qat) qf (by rfl) ?_)|refine zC 300 (hsm) ?_|refine zG 300 (fun hg=>hsm) ?_|(refine CallY.con (hsm) (by rfl) leA ?_)|(refine CallZ.con (fun hg=>hsm) qf (by rfl) ?_)|refine zC 300 (hc1) ?_|refine zG 300 (fun hg=>hc1) ?_|(refine CallY.con (hc1) (by rfl) leA ?_)|(refine CallZ.con (fun hg=>hc1) qf (by rfl) ?_)|refine zC 300 (hc2) ?_|refine zG 300 (fun hg=>hc2) ?_|(refine CallY.con (hc2) (by rfl) leA ?_)|(refine CallZ.con (fun hg=>hc2) qf (by rfl) ?_)|(refine qh (fun _=>rfl) 300 (qat) qd (by (repeat' (first|exact trivial|exact Le.refl _|(refine And.intro ?_ ?_))) <;> fail) (by rfl) (by kernel_rfl) ?_)|(refine qi (fun _=>rfl) 300 (fun hg=>qat) (fun hg=>qd) (fun hg=>(by (repeat' (first|exact trivial|exact Le.refl _|exact Le.cnd hg|(refine And.intro ?_ ?_))) <;> fail)) (by rfl) (by kernel_rfl) ?_)|(refine qh (fun _=>rfl) 300 (hsm) qd (by (repeat' (first|exact trivial|exact Le.refl _|(refine And.intro ?_ ?_))) <;> fail) (by rfl) (by kernel_rfl) ?_)|(refine qi (fun _=>rfl) 300 (fun hg=>hsm) (fun hg=>qd) (fun hg=>(by (repeat' (first|exact trivial|exact Le.refl _|exact Le.cnd hg|(refine And.intro ?_ ?_))) <;> fail)) (by rfl) (by kernel_rfl) ?_)|(refine qh (fun _=>rfl) 300 (hc1) qd (by (repeat' (first|exact trivial|exact Le.refl _|(refine And.intro ?_ ?_))) <;> fail) (by rfl) (by kernel_rfl) ?_)|(refine qi (fun _=>rfl) 300 (fun hg=>hc1) (fun hg=>qd) (fun hg=>(by (repeat' (first|exact trivial|exact Le.refl _|exact Le.cnd hg|(refine And.intro ?_ ?_))) <;> fail)) (by rfl) (by kernel_rfl) ?_)|(refine qh (fun _=>rfl) 300 (hc2) qd (by (repeat' (first|exact trivial|exact Le.refl _|(refine And.intro ?_ ?_))) <;> fail) (by rfl) (by kernel_rfl) ?_)|(refine qi (fun _=>rfl) 300 (fun hg=>hc2) (fun hg=>qd) (fun hg=>(by (repeat' (first|exact trivial|exact Le.refl _|exact Le.cnd hg|(refine And.intro ?_ ?_))) <;> fail)) (by rfl) (by kernel_rfl) ?_)|(apply zB <;> intro hb <;> (try simp [-zd] at hb) <;> try (exfalso;omega))|refine Ob.intro ?_ ?_))
   ((conv=>whnf);refine qfy (fun _=>rfl) 300 (.int .i64 0) (by kernel_rfl) qf (fun he=>absurd he (by decide)) (fun he=>?_))
   (repeat' ((conv=>whnf);first|refine zO ?_|refine Ob.auto ?_|(refine Ob.intro (by (first|exact ⟨by omega,by omega⟩)) ?_)|(apply zB <;> intro hb <;> (try simp [-zd] at hb) <;> try (exfalso;omega))|refine Ob.intro ?_ ?_))
   exact Le.refl _
  | true=>
   have hcr:=hrt rfl
   have hbF:=hbr rfl
   refine zK {owns:=[(33,(23,1)),(6,(23,1)),(54,(23,1))]} 300 Try.func3 (fun c0 rdb=>?_)
   (repeat' ((conv=>whnf);first|refine zO ?_|refine Ob.auto ?_|(refine Ob.intro (by (first|exact ⟨by omega,by omega⟩)) ?_)|refine zC 300 (qat) ?_|refine zG 300 (fun hg=>qat) ?_|(refine CallY.con (qat) (by rfl) leA ?_)|(refine CallZ.con (fun hg=>qat) qf (by rfl) ?_)|refine zC 300 (hsm) ?_|refine zG 300 (fun hg=>hsm) ?_|(refine CallY.con (hsm) (by rfl) leA ?_)|(refine CallZ.con (fun hg=>hsm) qf (by rfl) ?_)|refine zC 300 (hc1) ?_|refine zG 300 (fun hg=>hc1) ?_|(refine CallY.con (hc1) (by rfl) leA ?_)|(refine CallZ.con (fun hg=>hc1) qf (by rfl) ?_)|refine zC 300 (hc2) ?_|refine zG 300 (fun hg=>hc2) ?_|(refine CallY.con (hc2) (by rfl) leA ?_)|(refine CallZ.con (fun hg=>hc2) qf (by rfl) ?_)|(refine qh (fun _=>rfl) 300 (qat) qd (by (repeat' (first|exact trivial|exact Le.refl _|(refine And.intro ?_ ?_))) <;> fail) (by rfl) (by kernel_rfl) ?_)|(refine qi (fun _=>rfl) 300 (fun hg=>qat) (fun hg=>qd) (fun hg=>(by (repeat' (first|exact trivial|exact Le.refl _|exact Le.cnd hg|(refine And.intro ?_ ?_))) <;> fail)) (by rfl) (by kernel_rfl) ?_)|(refine qh (fun _=>rfl) 300 (hsm) qd (by (repeat' (first|exact trivial|exact Le.refl _|(refine And.intro ?_ ?_))) <;> fail) (by rfl) (by kernel_rfl) ?_)|(refine qi (fun _=>rfl) 300 (fun hg=>hsm) (fun hg=>qd) (fun hg=>(by (repeat' (first|exact trivial|exact Le.refl _|exact Le.cnd hg|(refine And.intro ?_ ?_))) <;> fail)) (by rfl) (by kernel_rfl) ?_)|(refine qh (fun _=>rfl) 300 (hc1) qd (by (repeat' (first|exact trivial|exact Le.refl _|(refine And.intro ?_ ?_))) <;> fail) (by rfl) (by kernel_rfl) ?_)|(refine qi (fun _=>rfl) 300 (fun hg=>hc1) (fun hg=>qd) (fun hg=>(by (repeat' (first|exact trivial|exact Le.refl _|exact Le.cnd hg|(refine And.intro ?_ ?_))) <;> fail)) (by rfl) (by kernel_rfl) ?_)|(refine qh (fun _=>rfl) 300 (hc2) qd (by (repeat' (first|exact trivial|exact Le.refl _|(refine And.intro ?_ ?_))) <;> fail) (by rfl) (by kernel_rfl) ?_)|(refine qi (fun _=>rfl) 300 (fun hg=>hc2) (fun hg=>qd) (fun hg=>(by (repeat' (first|exact trivial|exact Le.refl _|exact Le.cnd hg|(refine And.intro ?_ ?_))) <;> fail)) (by rfl) (by kernel_rfl) ?_)|(apply zB <;> intro hb <;> (try simp [-zd] at hb) <;> try (exfalso;omega))|refine Ob.intro ?_ ?_))
   ((conv=>whnf);refine qi (fun _=>rfl) 300 (fun _=>hgc) qd (fun hg=>⟨Le.slc (by rw [xg];omega) (fun k hk=>jki (enc:=fun d:List Int=>[ints d]) rfl k (by omega)),trivial⟩) (by rfl) (by kernel_rfl) ?_)
   generalize qe (c::cs)=G
   replace hgc:=Hid.in hgc
   replace hc1:=Hid.in hc1
   replace hc2:=Hid.in hc2
   (repeat' ((conv=>whnf);first|refine zO ?_|refine Ob.auto ?_|(refine Ob.intro (by (first|exact ⟨by omega,by omega⟩)) ?_)|(apply zB <;> intro hb <;> (try simp [-zd] at hb) <;> try (exfalso;omega))|refine Ob.intro ?_ ?_))
   ·exact Le.refl _
   ((conv=>whnf);refine ja (fun _=>rfl) 300 1 (fun q:Nat=>[(7,iv q),(6,.own 1 0 0 q)]) (fun q=>[(1,.row [] 23 1 0 q (encL (fun d=>[ints d]) [] (offL (c.take q))))]) (fun q=>q≤c.length) (fun q=>c.length - q) (0) (zx _) qa (by
    repeat' (first|exact trivial|exact rfl|exact Le.refl _|exact fun j hj=>absurd hj (zp _)|refine And.intro ?_ ?_)) (fun _=>rfl) (by kernel_rfl) ?_;(conv=>whnf))
   intro q hq
   by_cases hql:q<c.length
   ·have hx:=(qag _).1 (List.all_eq_true.1 hcr _ (qj (d:=0) hql))
    have hni:inR .i64 (0 - c.getD q 0):=qbb (by omega) (by omega)
    (repeat' ((conv=>whnf);first|refine zO ?_|refine Ob.auto ?_|(refine Ob.intro (by (first|exact ⟨by omega,by omega⟩|exact ⟨⟨rfl,rfl⟩,zf _,Int.ofNat_lt.2 hql⟩|exact ⟨⟨rfl,rfl⟩,hql⟩|exact hni|exact ⟨⟨rfl,rfl⟩,qcw (b:=(tab Try.prog 23).bytes) (by omega) (by decide +kernel)⟩)) ?_)|(apply zB <;> intro hb <;> (try simp [-zd] at hb) <;> try (exfalso;omega))|refine Ob.intro ?_ ?_))
    ((conv=>whnf);refine ⟨q+1,hql,⟨(by (repeat' (first|exact trivial|exact rfl|exact Le.refl _|exact SoLe.refl _|refine And.intro ?_ ?_))),(by
     repeat' (first|exact trivial|exact rfl|exact Le.refl _|exact fun k hk=>jkk hql rfl (qjf (by rw [← Int.zero_sub];rfl)) k hk|refine And.intro ?_ ?_))⟩,⟨qa,qa⟩,?_⟩;(first|omega|(dsimp only;omega)|skip))
   ·obtain rfl:q=c.length:=by omega
    rw [xk]
    have hol:=qyc c
    have hbc:=jjn (cs++offL c) 8 (by decide) (by rw [zj,hol];omega) (fun d hd=>by
     rcases List.mem_append.1 hd with hd|hd
     ·have:=hc5 d hd;omega
     ·obtain ⟨x,_,rfl⟩:=List.mem_map.1 hd
      simp)
    rw [hbF] at hbc
    (repeat' ((conv=>whnf);first|refine zO ?_|refine Ob.auto ?_|(refine Ob.intro (by (first|exact ⟨by omega,by omega⟩)) ?_)|(apply zB <;> intro hb <;> (try simp [-zd] at hb) <;> try (exfalso;omega))|refine Ob.intro ?_ ?_))
    ((conv=>whnf);refine qh (fun _=>rfl) 300 hbc qd ⟨Le.slc (by rw [zj,hol];omega) (fun k hk=>?_),Le.refl _,trivial⟩ (by rfl) (by kernel_rfl) ?_)
    ·have:=jkj (enc:=fun d:List Int=>[ints d]) (d:=[]) (a:=cs) (b:=offL c) (f0:=chop (0+1) []) k (by omega)
     rw [hol] at this
     exact this
    (repeat' ((conv=>whnf);first|refine zO ?_|refine Ob.auto ?_|(refine Ob.intro (by (first|exact ⟨by omega,by omega⟩)) ?_)|(apply zB <;> intro hb <;> (try simp [-zd] at hb) <;> try (exfalso;omega))|refine Ob.intro ?_ ?_))
    exact Le.refl _
 ·refine zK {} 300 Try.func3 (fun c0 rdb=>?_)
  (repeat' ((conv=>whnf);first|refine zO ?_|refine Ob.auto ?_|(refine Ob.intro (by (first|exact ⟨by omega,by omega⟩)) ?_)|refine zC 300 (qat) ?_|refine zG 300 (fun hg=>qat) ?_|(refine CallY.con (qat) (by rfl) leA ?_)|(refine CallZ.con (fun hg=>qat) qf (by rfl) ?_)|refine zC 300 (hsm) ?_|refine zG 300 (fun hg=>hsm) ?_|(refine CallY.con (hsm) (by rfl) leA ?_)|(refine CallZ.con (fun hg=>hsm) qf (by rfl) ?_)|(refine qh (fun _=>rfl) 300 (qat) qd (by (repeat' (first|exact trivial|exact Le.refl _|(refine And.intro ?_ ?_))) <;> fail) (by rfl) (by kernel_rfl) ?_)|(refine qi (fun _=>rfl) 300 (fun hg=>qat) (fun hg=>qd) (fun hg=>(by (repeat' (first|exact trivial|exact Le.refl _|exact Le.cnd hg|(refine And.intro ?_ ?_))) <;> fail)) (by rfl) (by kernel_rfl) ?_)|(refine qh (fun _=>rfl) 300 (hsm) qd (by (repeat' (first|exact trivial|exact Le.refl _|(refine And.intro ?_ ?_))) <;> fail) (by rfl) (by kernel_rfl) ?_)|(refine qi (fun _=>rfl) 300 (fun hg=>hsm) (fun hg=>qd) (fun hg=>(by (repeat' (first|exact trivial|exact Le.refl _|exact Le.cnd hg|(refine And.intro ?_ ?_))) <;> fail)) (by rfl) (by kernel_rfl) ?_)|(apply zB <;> intro hb <;> (try simp [-zd] at hb) <;> try (exfalso;omega))|refine Ob.intro ?_ ?_))
  ·exact Le.refl _
  ·exfalso
   exact hs ⟨hb.1,by omega⟩
end Go.Proofs.Ytkhdldncbmkidaa
