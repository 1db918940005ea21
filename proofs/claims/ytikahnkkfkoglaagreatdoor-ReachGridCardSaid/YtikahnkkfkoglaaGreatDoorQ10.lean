/- Some texts of the library, one behind the other. -/
import Derived.Test.YtikahnkkfkoglaaGreatDoorQ9
import Derived.Test.YtikahnkkfkoglaaGreatDoorQ8
import Derived.Test.YtikahnkkfkoglaaGreatDoorQ2
import Derived.Lib.ItoaLen
set_option linter.unusedSimpArgs false
set_option linter.unusedVariables false
section
namespace Go.Proofs.YtikahnkkfkoglaaGreatDoor
open List renaming getD_eq_getElem?_getD → zd
open Go Go.Sx Go.RowKit Go.St
set_option maxRecDepth 100000
set_option maxHeartbeats 2000000
theorem qus {m:Md} {s:Stt} (hm:MOk m) (h:fitsB m s=true):SOk m s:=by
 obtain ⟨h0,hA,hV,hC⟩:=(qap m s).1 h
 refine ⟨h0.2.1,h0.2.2.1,fun v hv=>?_,fun c hc=>?_⟩
 ·obtain ⟨i,hi,rfl⟩:=List.mem_iff_getElem.1 hv
  have h1:=hV i hi
  have h2:=qnu (s.vars.getD i 0) (m.vars.getD i vr0).width
  unfold qlu at h1
  rw [h1] at h2
  rw [zd,ze hi] at h2
  simp only [zaf] at h2
  omega
 ·obtain ⟨i,hi,rfl⟩:=List.mem_iff_getElem.1 hc
  have h1:=(hC i hi).1
  have h2:=hm.chan _ (qr m.chans i ch0 (by omega))
  unfold qkh at h1
  rw [zd,ze hi] at h1
  simp only [zaf] at h1
  omega
def sval (m:Md) (p:Int) (s:Stt) (k:Int):Int × Bool:=if 0≤k∧k<m.tree.length∧fitsB m s=true then val m p s k else (0,false)
theorem qut (m:Md) (hm:MOk m) (p:Int) (s:Stt) (hs:SSz s) (k:Int):Con Tryz.prog 118 [m.av,iv p,s.av,iv k] (qlr (sval m p s k)):=by
 have hsz:=hm.sz
 by_cases hf:0≤k∧k<m.tree.length∧fitsB m s=true
 ·have hso:=qus hm hf.2.2
  refine zK {} 300 Tryz.func118 (fun c0 rdb=>?_)
  (repeat' ((conv=>whnf);first|refine zO ?_|refine Ob.auto ?_|refine zC 300 (qad m s hs) ?_|refine zG 300 (fun hg=>qad m s hs) ?_|refine zX (qad m s hs) ?_|refine zY (fun hg=>qad m s hs) ?_|refine zC 300 (qfc m p s) ?_|refine zG 300 (fun hg=>qfc m p s) ?_|refine zX (qfc m p s) ?_|refine zY (fun hg=>qfc m p s) ?_|refine zC 300 (qfd m hm p s hso m.tree.length k (by omega) (by omega) (by omega)) ?_|refine zG 300 (fun hg=>qfd m hm p s hso m.tree.length k (by omega) (by omega) (by omega)) ?_|refine zX (qfd m hm p s hso m.tree.length k (by omega) (by omega) (by omega)) ?_|refine zY (fun hg=>qfd m hm p s hso m.tree.length k (by omega) (by omega) (by omega)) ?_|(refine qm (fun _=>rfl) 300 (qad m s hs) qc (by (repeat' (first|exact trivial|exact Le.refl _|(refine And.intro ?_ ?_))) <;> fail) (by rfl) (by kernel_rfl) ?_)|(refine jb (fun _=>rfl) 300 (fun hg=>qad m s hs) (fun hg=>qc) (fun hg=>(by (repeat' (first|exact trivial|exact Le.refl _|exact Le.cnd hg|(refine And.intro ?_ ?_))) <;> fail)) (by rfl) (by kernel_rfl) ?_)|(refine qm (fun _=>rfl) 300 (qfc m p s) qc (by (repeat' (first|exact trivial|exact Le.refl _|(refine And.intro ?_ ?_))) <;> fail) (by rfl) (by kernel_rfl) ?_)|(refine jb (fun _=>rfl) 300 (fun hg=>qfc m p s) (fun hg=>qc) (fun hg=>(by (repeat' (first|exact trivial|exact Le.refl _|exact Le.cnd hg|(refine And.intro ?_ ?_))) <;> fail)) (by rfl) (by kernel_rfl) ?_)|(refine qm (fun _=>rfl) 300 (qfd m hm p s hso m.tree.length k (by omega) (by omega) (by omega)) qc (by (repeat' (first|exact trivial|exact Le.refl _|(refine And.intro ?_ ?_))) <;> fail) (by rfl) (by kernel_rfl) ?_)|(refine jb (fun _=>rfl) 300 (fun hg=>qfd m hm p s hso m.tree.length k (by omega) (by omega) (by omega)) (fun hg=>qc) (fun hg=>(by (repeat' (first|exact trivial|exact Le.refl _|exact Le.cnd hg|(refine And.intro ?_ ?_))) <;> fail)) (by rfl) (by kernel_rfl) ?_)|(refine zP 300 ?_)|(apply zB <;> intro hb <;> (try simp [-zd] at hb) <;> try (exfalso;omega))|refine Ob.intro ?_ ?_))
  ·exfalso;rcases hb with hb|hb
   ·omega
   ·rw [hf.2.2] at hb;cases hb
  ·refine Le.of_eq ?_
   rw [sval,zb hf];rfl
 ·refine zK {} 300 Tryz.func118 (fun c0 rdb=>?_)
  (repeat' ((conv=>whnf);first|refine zO ?_|refine Ob.auto ?_|refine zC 300 (qad m s hs) ?_|refine zG 300 (fun hg=>qad m s hs) ?_|refine zX (qad m s hs) ?_|refine zY (fun hg=>qad m s hs) ?_|(refine qm (fun _=>rfl) 300 (qad m s hs) qc (by (repeat' (first|exact trivial|exact Le.refl _|(refine And.intro ?_ ?_))) <;> fail) (by rfl) (by kernel_rfl) ?_)|(refine jb (fun _=>rfl) 300 (fun hg=>qad m s hs) (fun hg=>qc) (fun hg=>(by (repeat' (first|exact trivial|exact Le.refl _|exact Le.cnd hg|(refine And.intro ?_ ?_))) <;> fail)) (by rfl) (by kernel_rfl) ?_)|(refine zP 300 ?_)|(apply zB <;> intro hb <;> (try simp [-zd] at hb) <;> try (exfalso;omega))|refine Ob.intro ?_ ?_))
  ·refine Le.of_eq ?_
   rw [sval,za hf];rfl
  ·exact absurd ⟨hb.1.1,hb.1.2,hb.2⟩ hf
theorem jqo (m:Md) (hm:MOk m) (s:Stt) (hs:SSz s):Con Tryz.prog 46 [m.av,s.av] (.bool (m.safe.isEmpty || fitsB m s && qnv m s)):=by
 have hsz:=hm.sz
 have hsf:=hm.safe
 by_cases hf:fitsB m s=true
 ·have hso:=qus hm hf
  refine zK {} 300 Tryz.func46 (fun c0 rdb=>?_)
  (repeat' ((conv=>whnf);first|refine zO ?_|refine Ob.auto ?_|refine zC 300 (qad m s hs) ?_|refine zG 300 (fun hg=>qad m s hs) ?_|refine zX (qad m s hs) ?_|refine zY (fun hg=>qad m s hs) ?_|refine zC 300 (qfc m (-1) s) ?_|refine zG 300 (fun hg=>qfc m (-1) s) ?_|refine zX (qfc m (-1) s) ?_|refine zY (fun hg=>qfc m (-1) s) ?_|(refine qm (fun _=>rfl) 300 (qad m s hs) qc (by (repeat' (first|exact trivial|exact Le.refl _|(refine And.intro ?_ ?_))) <;> fail) (by rfl) (by kernel_rfl) ?_)|(refine jb (fun _=>rfl) 300 (fun hg=>qad m s hs) (fun hg=>qc) (fun hg=>(by (repeat' (first|exact trivial|exact Le.refl _|exact Le.cnd hg|(refine And.intro ?_ ?_))) <;> fail)) (by rfl) (by kernel_rfl) ?_)|(refine qm (fun _=>rfl) 300 (qfc m (-1) s) qc (by (repeat' (first|exact trivial|exact Le.refl _|(refine And.intro ?_ ?_))) <;> fail) (by rfl) (by kernel_rfl) ?_)|(refine jb (fun _=>rfl) 300 (fun hg=>qfc m (-1) s) (fun hg=>qc) (fun hg=>(by (repeat' (first|exact trivial|exact Le.refl _|exact Le.cnd hg|(refine And.intro ?_ ?_))) <;> fail)) (by rfl) (by kernel_rfl) ?_)|(refine zP 300 ?_)|(apply zB <;> intro hb <;> (try simp [-zd] at hb) <;> try (exfalso;omega))|refine Ob.intro ?_ ?_))
  ·refine Le.of_eq (congrArg AV.bool ?_)
   simp [hb]
  ·rw [hf] at hb;cases hb
  ·rename_i hne
   have hemp:m.safe.isEmpty=false:=by simp [hne]
   ((conv=>whnf);refine qt (fun _=>rfl) 300 1 (fun i:Nat=>[(24,iv i)]) (fun _=>[]) (fun i=>i≤m.safe.length∧∀ j,j<i→qri m s (m.safe.getD j 0)=true) (fun i=>m.safe.length - i) (0) (⟨by omega,fun j hj=>absurd hj (zi j)⟩) qa qa (fun _=>rfl) (by kernel_rfl) ?_;(conv=>whnf))
   intro i hi
   have hki:i<m.safe.length→_:=fun h=>hsf _ (qr m.safe i 0 h)
   (repeat' ((conv=>whnf);first|refine zO ?_|refine Ob.auto ?_|refine zC 300 (qfd m hm (-1) s hso m.tree.length (m.safe.getD i 0) (hki (by omega)).1 (hki (by omega)).2 (by omega)) ?_|refine zG 300 (fun hg=>qfd m hm (-1) s hso m.tree.length (m.safe.getD i 0) (hki (by omega)).1 (hki (by omega)).2 (by omega)) ?_|refine zX (qfd m hm (-1) s hso m.tree.length (m.safe.getD i 0) (hki (by omega)).1 (hki (by omega)).2 (by omega)) ?_|refine zY (fun hg=>qfd m hm (-1) s hso m.tree.length (m.safe.getD i 0) (hki (by omega)).1 (hki (by omega)).2 (by omega)) ?_|(refine qm (fun _=>rfl) 300 (qfd m hm (-1) s hso m.tree.length (m.safe.getD i 0) (hki (by omega)).1 (hki (by omega)).2 (by omega)) qc (by (repeat' (first|exact trivial|exact Le.refl _|(refine And.intro ?_ ?_))) <;> fail) (by rfl) (by kernel_rfl) ?_)|(refine jb (fun _=>rfl) 300 (fun hg=>qfd m hm (-1) s hso m.tree.length (m.safe.getD i 0) (hki (by omega)).1 (hki (by omega)).2 (by omega)) (fun hg=>qc) (fun hg=>(by (repeat' (first|exact trivial|exact Le.refl _|exact Le.cnd hg|(refine And.intro ?_ ?_))) <;> fail)) (by rfl) (by kernel_rfl) ?_)|(refine zP 300 ?_)|(apply zB <;> intro hb <;> (try simp [-zd] at hb) <;> try (exfalso;omega))|refine Ob.intro ?_ ?_))
   ·refine Le.of_eq (congrArg AV.bool ?_)
    rw [hf,hemp,zav,zao]
    refine (jpf 0 (j:=i) (by omega) ?_).symm
    simp only [qri,val]
    rcases hb with hb|hb <;> simp [-zd,hb]
   ·((conv=>whnf);refine ⟨i+1,⟨by omega,qcc hi.2 (by simp only [qri,val];simp [-zd,hb])⟩,⟨qa,qa⟩,⟨qa,qa⟩,?_⟩;(first|omega|(dsimp only;omega)|skip))
   ·refine Le.of_eq (congrArg AV.bool ?_)
    rw [hf,hemp,zav,zao]
    exact (jpe 0 (fun j hj=>hi.2 j (by omega))).symm
 ·refine zK {} 300 Tryz.func46 (fun c0 rdb=>?_)
  (repeat' ((conv=>whnf);first|refine zO ?_|refine Ob.auto ?_|refine zC 300 (qad m s hs) ?_|refine zG 300 (fun hg=>qad m s hs) ?_|refine zX (qad m s hs) ?_|refine zY (fun hg=>qad m s hs) ?_|(refine qm (fun _=>rfl) 300 (qad m s hs) qc (by (repeat' (first|exact trivial|exact Le.refl _|(refine And.intro ?_ ?_))) <;> fail) (by rfl) (by kernel_rfl) ?_)|(refine jb (fun _=>rfl) 300 (fun hg=>qad m s hs) (fun hg=>qc) (fun hg=>(by (repeat' (first|exact trivial|exact Le.refl _|exact Le.cnd hg|(refine And.intro ?_ ?_))) <;> fail)) (by rfl) (by kernel_rfl) ?_)|(refine zP 300 ?_)|(apply zB <;> intro hb <;> (try simp [-zd] at hb) <;> try (exfalso;omega))|refine Ob.intro ?_ ?_))
  ·refine Le.of_eq (congrArg AV.bool ?_)
   simp [hb]
  ·rename_i hne
   refine Le.of_eq (congrArg AV.bool ?_)
   simp [hb,hne]
  ·exact absurd hb hf
set_option maxHeartbeats 4000000
def qdr (l:List Int):List UInt8:=Lib.itoa l.length++(l.flatMap fun n=>32::Lib.itoa n)++[59]
def keyT (s:Stt):List UInt8:=qdr s.at_++qdr s.vars++(s.chans.flatMap qdr)++Lib.itoa s.holder
def quu (l:List UInt8):SO:=.row [] 5 1 0 l.length (digF l)
theorem qro (a b:List UInt8) (k:Nat):appF a.length (digF a) b.length (digF b) k=digF (a++b) k∨a.length+b.length≤k:=by
 unfold appF
 by_cases h:k<a.length
 ·left
  rw [zb h];unfold digF
  rw [zd (l:=a++b),zr h,← zd]
 ·by_cases h2:k<a.length+b.length
  ·left
   rw [za h,zb h2];unfold digF
   rw [zd (l:=a++b),zp (by omega),← zd]
  ·right;omega
theorem jqr (a b:List UInt8) {c:List UInt8} (hc:a++b=c) {ids:List Nat} {e:TypeId} {ep:Nat} {f:Nat→List AV} (hf:∀ k,k<a.length+b.length→f k=appF a.length (digF a) b.length (digF b) k):SoLe (.row ids e 1 ep (a.length+b.length) f) (.row ids e 1 ep c.length (digF c)):=by
 subst hc
 refine ⟨⟨rfl,rfl,rfl⟩,rfl,by simp,fun k hk=>LeL.of_eq ?_⟩
 rw [hf k hk]
 rcases qro a b k with h|h
 ·exact h
 ·omega
theorem jco (a:List UInt8) (x:UInt8) (k:Nat) (h:k<a.length+1):appF a.length (digF a) 1 (chop 1 [.int .u8 ((x.toNat:Nat):Int)]) k=digF (a++[x]) k:=by
 have h1:=qro a [x] k
 rcases h1 with h1|h1
 ·rw [← h1]
  unfold appF
  by_cases h2:k<a.length
  ·rw [zb h2,zb h2]
  ·rw [za h2,za h2,zb h,zb (by simpa using h),show k - a.length=0 by omega]
   rfl
 ·simp only [xh,zaj] at h1;omega
theorem jqs (a:List UInt8) (x:UInt8) {c:List UInt8} (hc:a++[x]=c) {ids:List Nat} {e:TypeId} {ep:Nat}:SoLe (.row ids e 1 ep (a.length+1) (appF a.length (digF a) 1 (chop 1 [.int .u8 ((x.toNat:Nat):Int)]))) (.row ids e 1 ep c.length (digF c)):=by
 subst hc
 exact ⟨⟨rfl,rfl,rfl⟩,rfl,by simp,fun k hk=>LeL.of_eq (jco a x k hk)⟩
theorem jqt (a:List UInt8) (x:UInt8) (b:List UInt8) {c:List UInt8} (hc:a++[x]++b=c) {ids:List Nat} {e:TypeId} {ep:Nat}:SoLe (.row ids e 1 ep (a.length+1+b.length) (appF (a.length+1) (appF a.length (digF a) 1 (chop 1 [.int .u8 ((x.toNat:Nat):Int)])) b.length (digF b))) (.row ids e 1 ep c.length (digF c)):=by
 subst hc
 refine ⟨⟨rfl,rfl,rfl⟩,rfl,by simp;omega,fun k hk=>LeL.of_eq ?_⟩
 have h1:=qro (a++[x]) b k
 rw [zg,xl] at h1
 rcases h1 with h1|h1
 ·rw [← h1]
  by_cases h2:k<a.length+1
  ·exact (zb h2).trans ((jco a x k h2).trans (zb h2).symm)
  ·have hk':k<a.length+1+b.length:=hk
   exact ((za h2).trans (zb hk')).trans ((za h2).trans (zb hk')).symm
 ·omega
def qcq (t:List UInt8) (l:List Int) (i:Nat):List UInt8:=t++Lib.itoa l.length++(l.take i).flatMap fun n=>32::Lib.itoa n
theorem jcp {n:Int} (h:-9223372036854775808≤n∧n≤9223372036854775807):(Lib.itoa n).length≤21:=Lib.itoa_length_le n h.1 h.2
theorem jcq (t:List UInt8) (l:List Int) (hl:l.length≤1000000) (hr:∀ n∈l,-9223372036854775808≤n∧n≤9223372036854775807) (i:Nat):(qcq t l i).length≤t.length+21+22 * i:=by
 have key:∀ (m:List Int) (i:Nat),(∀ n∈m,-9223372036854775808≤n∧n≤9223372036854775807)→((m.take i).flatMap fun n=>32::Lib.itoa n).length≤22 * i:=by
  intro m
  induction m with
  | nil=>intro i _;simp
  | cons x m ih=>
   intro i h
   cases i with
   | zero=>simp
   | succ i=>
    rw [List.take_succ_cons,List.flatMap_cons,zg,xh]
    have h1:=ih i (fun n hn=>h n (zu _ hn))
    have h2:=jcp (h x (zt ..))
    omega
 have h1:=key l i hr
 have h2:=jcp (n:=(l.length:Int)) ⟨by omega,by omega⟩
 unfold qcq
 simp only [zg]
 omega
theorem jqu (t:List UInt8) (l:List Int) (i:Nat) (hi:i<l.length):qcq t l i++[32]++Lib.itoa (l.getD i 0)=qcq t l (i+1):=by
 have h:l.take (i+1)=l.take i++[l.getD i 0]:=by
  rw [List.take_add_one,zd,ze hi];rfl
 unfold qcq
 rw [h,List.flatMap_append]
 simp
theorem jcr (t:List UInt8) (l:List Int):qcq t l l.length++[59]=t++qdr l:=by
 unfold qcq qdr
 rw [zba]
 simp
theorem quv (t:List UInt8) (l:List Int) (hl:l.length≤1000000) (hr:∀ n∈l,-9223372036854775808≤n∧n≤9223372036854775807) (ht:t.length≤100000000000000) :
  Trip Tryz.prog 87 [ints l,.ptr 0 0] [.box 54 [.own 1 0 0 t.length],quu t] (.tup []) [(0,.box 54 [.own 1 0 0 (t++qdr l).length]),(1,quu (t++qdr l))] 2:=by
 unfold quu
 refine zL {} 300 Tryz.func87 (fun c0 rdb mpb=>?_)
 (repeat' ((conv=>whnf);first|refine zA ?_|refine zO ?_|refine Ob.auto ?_|refine zD 300 ?_|(apply zB <;> intro hb <;> (try simp [-zd] at hb) <;> try (exfalso;omega))|refine Ob.intro ?_ ?_))
 ((conv=>whnf);refine zT 300 [1] (quq 0 t.length (digF t) l.length (by omega) (by omega) (by omega)) qa ?_)
 (repeat' ((conv=>whnf);first|refine zA ?_|refine zO ?_|refine Ob.auto ?_|refine zD 300 ?_|(apply zB <;> intro hb <;> (try simp [-zd] at hb) <;> try (exfalso;omega))|refine Ob.intro ?_ ?_))
 ((conv=>whnf);refine qt (fun _=>rfl) 300 1 (fun i:Nat=>[(11,iv i)]) (fun i=>[(0,.box 54 [.own 1 0 0 (qcq t l i).length]),(1,.row [] 5 1 0 (qcq t l i).length (digF (qcq t l i)))]) (fun i=>i≤l.length) (fun i=>l.length - i) (0) (zw _) qa ⟨⟨rfl,Le.of_eq (congrArg (AV.own 1 0 0) (by simp [qcq])),trivial⟩,jqr t (Lib.itoa l.length) (by simp [qcq]) (fun k _=>rfl),trivial⟩ (fun _=>rfl) (by kernel_rfl) ?_;(conv=>whnf))
 intro i hi
 have hle:=jcq t l hl hr i
 have hg:=fun h:i<l.length=>hr _ (qr l i 0 h)
 (repeat' ((conv=>whnf);first|refine zA ?_|refine zO ?_|refine Ob.auto ?_|(refine Ob.intro (by (first|exact ⟨by omega,by omega⟩)) ?_)|refine zD 300 ?_|(apply zB <;> intro hb <;> (try simp [-zd] at hb) <;> try (exfalso;omega))|refine Ob.intro ?_ ?_))
 ·exact ⟨⟨rfl,rfl⟩,by omega,show (_+1) * 1≤140737488355328 by omega⟩
 ·have hg:=hg hb
  ((conv=>whnf);refine zT 300 [1] (quq 0 ((qcq t l i).length+1) (appF (qcq t l i).length (digF (qcq t l i)) 1 (chop 1 [.int .u8 32])) (l.getD i 0) hg.1 hg.2 (by omega)) qa ?_)
  (repeat' ((conv=>whnf);first|refine zA ?_|refine zO ?_|refine Ob.auto ?_|refine zD 300 ?_|(apply zB <;> intro hb <;> (try simp [-zd] at hb) <;> try (exfalso;omega))|refine Ob.intro ?_ ?_))
  have hnx:=jqu t l i hb
  ((conv=>whnf);refine ⟨i+1,by omega,⟨qa,⟨⟨rfl,Le.of_eq (congrArg (AV.own 1 0 0) (by rw [← hnx];simp;omega)),trivial⟩,jqt (qcq t l i) 32 (Lib.itoa (l.getD i 0)) hnx,trivial⟩⟩,⟨qa,qa⟩,?_⟩;(first|omega|(dsimp only;omega)|skip))
 ·exact ⟨⟨rfl,rfl⟩,by omega,show (_+1) * 1≤140737488355328 by omega⟩
 ·obtain rfl:i=l.length:=by omega
  have he:=jcr t l
  exact ⟨Le.refl _,⟨rfl,Le.of_eq (congrArg (AV.own 1 0 0) (by rw [← he];simp)),trivial⟩,jqs (qcq t l l.length) 59 he,trivial⟩
end Go.Proofs.YtikahnkkfkoglaaGreatDoor
end
