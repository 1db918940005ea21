/- Some texts of the library, one behind the other. -/
import Derived.Test.YtikahnkkfkoglaaGreatDoorY26
import Derived.Test.YtikahnkkfkoglaaGreatDoorY25
import Derived.Test.YtikahnkkfkoglaaGreatDoorY22
import Derived.Lib.ItoaLen
set_option linter.unusedSimpArgs false
set_option linter.unusedVariables false
section
namespace Go.Proofs.YtikahnkkfkoglaaGreatDoor
open List renaming getD_eq_getElem?_getD → zd
open Go Go.Sx Go.RowKit Go.St
set_option maxRecDepth 100000
set_option maxHeartbeats 2000000
theorem qkv {m:Md} {s:Stt} (hm:MOk m) (h:fitsB m s=true):SOk m s:=by
 obtain ⟨h0,hA,hV,hC⟩:=(jn m s).1 h
 refine ⟨h0.2.1,h0.2.2.1,fun v hv=>?_,fun c hc=>?_⟩
 ·obtain ⟨i,hi,rfl⟩:=List.mem_iff_getElem.1 hv
  have h1:=hV i hi
  have h2:=qon (s.vars.getD i 0) (m.vars.getD i vr0).width
  unfold qkt at h1
  rw [h1] at h2
  rw [zd,ze hi] at h2
  simp only [zag] at h2
  omega
 ·obtain ⟨i,hi,rfl⟩:=List.mem_iff_getElem.1 hc
  have h1:=(hC i hi).1
  have h2:=hm.chan _ (qk m.chans i ch0 (by omega))
  unfold qjd at h1
  rw [zd,ze hi] at h1
  simp only [zag] at h1
  omega
def sval (m:Md) (p:Int) (s:Stt) (k:Int):Int × Bool:=if 0≤k∧k<m.tree.length∧fitsB m s=true then val m p s k else (0,false)
theorem qwa (m:Md) (hm:MOk m) (p:Int) (s:Stt) (hs:SSz s) (k:Int):Con Tryz.prog 118 [m.av,iv p,s.av,iv k] (qkq (sval m p s k)):=by
 have hsz:=hm.sz
 by_cases hf:0≤k∧k<m.tree.length∧fitsB m s=true
 ·have hso:=qkv hm hf.2.2
  refine zK {} 300 Tryz.func118 (fun c0 rdb=>?_)
  (repeat' ((conv=>whnf);first|refine zO ?_|refine Ob.auto ?_|refine zC 300 (qag m s hs) ?_|refine zG 300 (fun hg=>qag m s hs) ?_|refine zX (qag m s hs) ?_|refine zY (fun hg=>qag m s hs) ?_|refine zC 300 (qfd m p s) ?_|refine zG 300 (fun hg=>qfd m p s) ?_|refine zX (qfd m p s) ?_|refine zY (fun hg=>qfd m p s) ?_|refine zC 300 (qfe m hm p s hso m.tree.length k (by omega) (by omega) (by omega)) ?_|refine zG 300 (fun hg=>qfe m hm p s hso m.tree.length k (by omega) (by omega) (by omega)) ?_|refine zX (qfe m hm p s hso m.tree.length k (by omega) (by omega) (by omega)) ?_|refine zY (fun hg=>qfe m hm p s hso m.tree.length k (by omega) (by omega) (by omega)) ?_|(refine qi (fun _=>rfl) 300 (qag m s hs) qc (by (repeat' (first|exact trivial|exact Le.refl _|(refine And.intro ?_ ?_))) <;> fail) (by rfl) (by kernel_rfl) ?_)|(refine qq (fun _=>rfl) 300 (fun hg=>qag m s hs) (fun hg=>qc) (fun hg=>(by (repeat' (first|exact trivial|exact Le.refl _|exact Le.cnd hg|(refine And.intro ?_ ?_))) <;> fail)) (by rfl) (by kernel_rfl) ?_)|(refine qi (fun _=>rfl) 300 (qfd m p s) qc (by (repeat' (first|exact trivial|exact Le.refl _|(refine And.intro ?_ ?_))) <;> fail) (by rfl) (by kernel_rfl) ?_)|(refine qq (fun _=>rfl) 300 (fun hg=>qfd m p s) (fun hg=>qc) (fun hg=>(by (repeat' (first|exact trivial|exact Le.refl _|exact Le.cnd hg|(refine And.intro ?_ ?_))) <;> fail)) (by rfl) (by kernel_rfl) ?_)|(refine qi (fun _=>rfl) 300 (qfe m hm p s hso m.tree.length k (by omega) (by omega) (by omega)) qc (by (repeat' (first|exact trivial|exact Le.refl _|(refine And.intro ?_ ?_))) <;> fail) (by rfl) (by kernel_rfl) ?_)|(refine qq (fun _=>rfl) 300 (fun hg=>qfe m hm p s hso m.tree.length k (by omega) (by omega) (by omega)) (fun hg=>qc) (fun hg=>(by (repeat' (first|exact trivial|exact Le.refl _|exact Le.cnd hg|(refine And.intro ?_ ?_))) <;> fail)) (by rfl) (by kernel_rfl) ?_)|(refine zP 300 ?_)|(apply zB <;> intro hb <;> (try simp [-zd] at hb) <;> try (exfalso;omega))|refine Ob.intro ?_ ?_))
  ·exfalso;rcases hb with hb|hb
   ·omega
   ·rw [hf.2.2] at hb;cases hb
  ·refine Le.of_eq ?_
   rw [sval,zb hf];rfl
 ·refine zK {} 300 Tryz.func118 (fun c0 rdb=>?_)
  (repeat' ((conv=>whnf);first|refine zO ?_|refine Ob.auto ?_|refine zC 300 (qag m s hs) ?_|refine zG 300 (fun hg=>qag m s hs) ?_|refine zX (qag m s hs) ?_|refine zY (fun hg=>qag m s hs) ?_|(refine qi (fun _=>rfl) 300 (qag m s hs) qc (by (repeat' (first|exact trivial|exact Le.refl _|(refine And.intro ?_ ?_))) <;> fail) (by rfl) (by kernel_rfl) ?_)|(refine qq (fun _=>rfl) 300 (fun hg=>qag m s hs) (fun hg=>qc) (fun hg=>(by (repeat' (first|exact trivial|exact Le.refl _|exact Le.cnd hg|(refine And.intro ?_ ?_))) <;> fail)) (by rfl) (by kernel_rfl) ?_)|(refine zP 300 ?_)|(apply zB <;> intro hb <;> (try simp [-zd] at hb) <;> try (exfalso;omega))|refine Ob.intro ?_ ?_))
  ·refine Le.of_eq ?_
   rw [sval,za hf];rfl
  ·exact absurd ⟨hb.1.1,hb.1.2,hb.2⟩ hf
theorem jqa (m:Md) (hm:MOk m) (s:Stt) (hs:SSz s):Con Tryz.prog 46 [m.av,s.av] (.bool (m.safe.isEmpty || fitsB m s && qmd m s)):=by
 have hsz:=hm.sz
 have hsf:=hm.safe
 by_cases hf:fitsB m s=true
 ·have hso:=qkv hm hf
  refine zK {} 300 Tryz.func46 (fun c0 rdb=>?_)
  (repeat' ((conv=>whnf);first|refine zO ?_|refine Ob.auto ?_|refine zC 300 (qag m s hs) ?_|refine zG 300 (fun hg=>qag m s hs) ?_|refine zX (qag m s hs) ?_|refine zY (fun hg=>qag m s hs) ?_|refine zC 300 (qfd m (-1) s) ?_|refine zG 300 (fun hg=>qfd m (-1) s) ?_|refine zX (qfd m (-1) s) ?_|refine zY (fun hg=>qfd m (-1) s) ?_|(refine qi (fun _=>rfl) 300 (qag m s hs) qc (by (repeat' (first|exact trivial|exact Le.refl _|(refine And.intro ?_ ?_))) <;> fail) (by rfl) (by kernel_rfl) ?_)|(refine qq (fun _=>rfl) 300 (fun hg=>qag m s hs) (fun hg=>qc) (fun hg=>(by (repeat' (first|exact trivial|exact Le.refl _|exact Le.cnd hg|(refine And.intro ?_ ?_))) <;> fail)) (by rfl) (by kernel_rfl) ?_)|(refine qi (fun _=>rfl) 300 (qfd m (-1) s) qc (by (repeat' (first|exact trivial|exact Le.refl _|(refine And.intro ?_ ?_))) <;> fail) (by rfl) (by kernel_rfl) ?_)|(refine qq (fun _=>rfl) 300 (fun hg=>qfd m (-1) s) (fun hg=>qc) (fun hg=>(by (repeat' (first|exact trivial|exact Le.refl _|exact Le.cnd hg|(refine And.intro ?_ ?_))) <;> fail)) (by rfl) (by kernel_rfl) ?_)|(refine zP 300 ?_)|(apply zB <;> intro hb <;> (try simp [-zd] at hb) <;> try (exfalso;omega))|refine Ob.intro ?_ ?_))
  ·refine Le.of_eq (congrArg AV.bool ?_)
   simp [hb]
  ·rw [hf] at hb;cases hb
  ·rename_i hne
   have hemp:m.safe.isEmpty=false:=by simp [hne]
   ((conv=>whnf);refine qm (fun _=>rfl) 300 1 (fun i:Nat=>[(24,iv i)]) (fun _=>[]) (fun i=>i≤m.safe.length∧∀ j,j<i→qkr m s (m.safe.getD j 0)=true) (fun i=>m.safe.length - i) (0) (⟨by omega,fun j hj=>absurd hj (zh j)⟩) qa qa (fun _=>rfl) (by kernel_rfl) ?_;(conv=>whnf))
   intro i hi
   have hki:i<m.safe.length→_:=fun h=>hsf _ (qk m.safe i 0 h)
   (repeat' ((conv=>whnf);first|refine zO ?_|refine Ob.auto ?_|refine zC 300 (qfe m hm (-1) s hso m.tree.length (m.safe.getD i 0) (hki (by omega)).1 (hki (by omega)).2 (by omega)) ?_|refine zG 300 (fun hg=>qfe m hm (-1) s hso m.tree.length (m.safe.getD i 0) (hki (by omega)).1 (hki (by omega)).2 (by omega)) ?_|refine zX (qfe m hm (-1) s hso m.tree.length (m.safe.getD i 0) (hki (by omega)).1 (hki (by omega)).2 (by omega)) ?_|refine zY (fun hg=>qfe m hm (-1) s hso m.tree.length (m.safe.getD i 0) (hki (by omega)).1 (hki (by omega)).2 (by omega)) ?_|(refine qi (fun _=>rfl) 300 (qfe m hm (-1) s hso m.tree.length (m.safe.getD i 0) (hki (by omega)).1 (hki (by omega)).2 (by omega)) qc (by (repeat' (first|exact trivial|exact Le.refl _|(refine And.intro ?_ ?_))) <;> fail) (by rfl) (by kernel_rfl) ?_)|(refine qq (fun _=>rfl) 300 (fun hg=>qfe m hm (-1) s hso m.tree.length (m.safe.getD i 0) (hki (by omega)).1 (hki (by omega)).2 (by omega)) (fun hg=>qc) (fun hg=>(by (repeat' (first|exact trivial|exact Le.refl _|exact Le.cnd hg|(refine And.intro ?_ ?_))) <;> fail)) (by rfl) (by kernel_rfl) ?_)|(refine zP 300 ?_)|(apply zB <;> intro hb <;> (try simp [-zd] at hb) <;> try (exfalso;omega))|refine Ob.intro ?_ ?_))
   ·refine Le.of_eq (congrArg AV.bool ?_)
    rw [hf,hemp,zbc,zat]
    refine (qop 0 (j:=i) (by omega) ?_).symm
    simp only [qkr,val]
    rcases hb with hb|hb <;> simp [-zd,hb]
   ·((conv=>whnf);refine ⟨i+1,⟨by omega,qaf hi.2 (by simp only [qkr,val];simp [-zd,hb])⟩,⟨qa,qa⟩,⟨qa,qa⟩,?_⟩;(first|omega|(dsimp only;omega)|skip))
   ·refine Le.of_eq (congrArg AV.bool ?_)
    rw [hf,hemp,zbc,zat]
    exact (qoo 0 (fun j hj=>hi.2 j (by omega))).symm
 ·refine zK {} 300 Tryz.func46 (fun c0 rdb=>?_)
  (repeat' ((conv=>whnf);first|refine zO ?_|refine Ob.auto ?_|refine zC 300 (qag m s hs) ?_|refine zG 300 (fun hg=>qag m s hs) ?_|refine zX (qag m s hs) ?_|refine zY (fun hg=>qag m s hs) ?_|(refine qi (fun _=>rfl) 300 (qag m s hs) qc (by (repeat' (first|exact trivial|exact Le.refl _|(refine And.intro ?_ ?_))) <;> fail) (by rfl) (by kernel_rfl) ?_)|(refine qq (fun _=>rfl) 300 (fun hg=>qag m s hs) (fun hg=>qc) (fun hg=>(by (repeat' (first|exact trivial|exact Le.refl _|exact Le.cnd hg|(refine And.intro ?_ ?_))) <;> fail)) (by rfl) (by kernel_rfl) ?_)|(refine zP 300 ?_)|(apply zB <;> intro hb <;> (try simp [-zd] at hb) <;> try (exfalso;omega))|refine Ob.intro ?_ ?_))
  ·refine Le.of_eq (congrArg AV.bool ?_)
   simp [hb]
  ·rename_i hne
   refine Le.of_eq (congrArg AV.bool ?_)
   simp [hb,hne]
  ·exact absurd hb hf
set_option maxHeartbeats 4000000
def qcc (l:List Int):List UInt8:=Lib.itoa l.length++(l.flatMap fun n=>32::Lib.itoa n)++[59]
def keyT (s:Stt):List UInt8:=qcc s.at_++qcc s.vars++(s.chans.flatMap qcc)++Lib.itoa s.holder
def qwc (l:List UInt8):SO:=.row [] 5 1 0 l.length (digF l)
theorem qsp (a b:List UInt8) (k:Nat):appF a.length (digF a) b.length (digF b) k=digF (a++b) k∨a.length+b.length≤k:=by
 unfold appF
 by_cases h:k<a.length
 ·left
  rw [zb h];unfold digF
  rw [zd (l:=a++b),zy h,← zd]
 ·by_cases h2:k<a.length+b.length
  ·left
   rw [za h,zb h2];unfold digF
   rw [zd (l:=a++b),zx (by omega),← zd]
  ·right;omega
theorem jqd (a b:List UInt8) {c:List UInt8} (hc:a++b=c) {ids:List Nat} {e:TypeId} {ep:Nat} {f:Nat→List AV} (hf:∀ k,k<a.length+b.length→f k=appF a.length (digF a) b.length (digF b) k):SoLe (.row ids e 1 ep (a.length+b.length) f) (.row ids e 1 ep c.length (digF c)):=by
 subst hc
 refine ⟨⟨rfl,rfl,rfl⟩,rfl,by simp,fun k hk=>LeL.of_eq ?_⟩
 rw [hf k hk]
 rcases qsp a b k with h|h
 ·exact h
 ·omega
theorem jct (a:List UInt8) (x:UInt8) (k:Nat) (h:k<a.length+1):appF a.length (digF a) 1 (chop 1 [.int .u8 ((x.toNat:Nat):Int)]) k=digF (a++[x]) k:=by
 have h1:=qsp a [x] k
 rcases h1 with h1|h1
 ·rw [← h1]
  unfold appF
  by_cases h2:k<a.length
  ·rw [zb h2,zb h2]
  ·rw [za h2,za h2,zb h,zb (by simpa using h),show k - a.length=0 by omega]
   rfl
 ·simp only [xg,zap] at h1;omega
theorem jqe (a:List UInt8) (x:UInt8) {c:List UInt8} (hc:a++[x]=c) {ids:List Nat} {e:TypeId} {ep:Nat}:SoLe (.row ids e 1 ep (a.length+1) (appF a.length (digF a) 1 (chop 1 [.int .u8 ((x.toNat:Nat):Int)]))) (.row ids e 1 ep c.length (digF c)):=by
 subst hc
 exact ⟨⟨rfl,rfl,rfl⟩,rfl,by simp,fun k hk=>LeL.of_eq (jct a x k hk)⟩
theorem jqf (a:List UInt8) (x:UInt8) (b:List UInt8) {c:List UInt8} (hc:a++[x]++b=c) {ids:List Nat} {e:TypeId} {ep:Nat}:SoLe (.row ids e 1 ep (a.length+1+b.length) (appF (a.length+1) (appF a.length (digF a) 1 (chop 1 [.int .u8 ((x.toNat:Nat):Int)])) b.length (digF b))) (.row ids e 1 ep c.length (digF c)):=by
 subst hc
 refine ⟨⟨rfl,rfl,rfl⟩,rfl,by simp;omega,fun k hk=>LeL.of_eq ?_⟩
 have h1:=qsp (a++[x]) b k
 rw [zg,zz] at h1
 rcases h1 with h1|h1
 ·rw [← h1]
  by_cases h2:k<a.length+1
  ·exact (zb h2).trans ((jct a x k h2).trans (zb h2).symm)
  ·have hk':k<a.length+1+b.length:=hk
   exact ((za h2).trans (zb hk')).trans ((za h2).trans (zb hk')).symm
 ·omega
def qcu (t:List UInt8) (l:List Int) (i:Nat):List UInt8:=t++Lib.itoa l.length++(l.take i).flatMap fun n=>32::Lib.itoa n
theorem jcu {n:Int} (h:-9223372036854775808≤n∧n≤9223372036854775807):(Lib.itoa n).length≤21:=Lib.itoa_length_le n h.1 h.2
theorem jcv (t:List UInt8) (l:List Int) (hl:l.length≤1000000) (hr:∀ n∈l,-9223372036854775808≤n∧n≤9223372036854775807) (i:Nat):(qcu t l i).length≤t.length+21+22 * i:=by
 have key:∀ (m:List Int) (i:Nat),(∀ n∈m,-9223372036854775808≤n∧n≤9223372036854775807)→((m.take i).flatMap fun n=>32::Lib.itoa n).length≤22 * i:=by
  intro m
  induction m with
  | nil=>intro i _;simp
  | cons x m ih=>
   intro i h
   cases i with
   | zero=>simp
   | succ i=>
    rw [List.take_succ_cons,List.flatMap_cons,zg,xg]
    have h1:=ih i (fun n hn=>h n (zq _ hn))
    have h2:=jcu (h x (zp ..))
    omega
 have h1:=key l i hr
 have h2:=jcu (n:=(l.length:Int)) ⟨by omega,by omega⟩
 unfold qcu
 simp only [zg]
 omega
theorem jqg (t:List UInt8) (l:List Int) (i:Nat) (hi:i<l.length):qcu t l i++[32]++Lib.itoa (l.getD i 0)=qcu t l (i+1):=by
 have h:l.take (i+1)=l.take i++[l.getD i 0]:=by
  rw [zbb,zd,ze hi];rfl
 unfold qcu
 rw [h,List.flatMap_append]
 simp
theorem jcw (t:List UInt8) (l:List Int):qcu t l l.length++[59]=t++qcc l:=by
 unfold qcu qcc
 rw [zay]
 simp
theorem qwd (t:List UInt8) (l:List Int) (hl:l.length≤1000000) (hr:∀ n∈l,-9223372036854775808≤n∧n≤9223372036854775807) (ht:t.length≤100000000000000) :
  Trip Tryz.prog 87 [ints l,.ptr 0 0] [.box 54 [.own 1 0 0 t.length],qwc t] (.tup []) [(0,.box 54 [.own 1 0 0 (t++qcc l).length]),(1,qwc (t++qcc l))] 2:=by
 unfold qwc
 refine zL {} 300 Tryz.func87 (fun c0 rdb mpb=>?_)
 (repeat' ((conv=>whnf);first|refine zA ?_|refine zO ?_|refine Ob.auto ?_|refine zD 300 ?_|(apply zB <;> intro hb <;> (try simp [-zd] at hb) <;> try (exfalso;omega))|refine Ob.intro ?_ ?_))
 ((conv=>whnf);refine zT 300 [1] (qvz 0 t.length (digF t) l.length (by omega) (by omega) (by omega)) qa ?_)
 (repeat' ((conv=>whnf);first|refine zA ?_|refine zO ?_|refine Ob.auto ?_|refine zD 300 ?_|(apply zB <;> intro hb <;> (try simp [-zd] at hb) <;> try (exfalso;omega))|refine Ob.intro ?_ ?_))
 ((conv=>whnf);refine qm (fun _=>rfl) 300 1 (fun i:Nat=>[(11,iv i)]) (fun i=>[(0,.box 54 [.own 1 0 0 (qcu t l i).length]),(1,.row [] 5 1 0 (qcu t l i).length (digF (qcu t l i)))]) (fun i=>i≤l.length) (fun i=>l.length - i) (0) (zv _) qa ⟨⟨rfl,Le.of_eq (congrArg (AV.own 1 0 0) (by simp [qcu])),trivial⟩,jqd t (Lib.itoa l.length) (by simp [qcu]) (fun k _=>rfl),trivial⟩ (fun _=>rfl) (by kernel_rfl) ?_;(conv=>whnf))
 intro i hi
 have hle:=jcv t l hl hr i
 have hg:=fun h:i<l.length=>hr _ (qk l i 0 h)
 (repeat' ((conv=>whnf);first|refine zA ?_|refine zO ?_|refine Ob.auto ?_|(refine Ob.intro (by (first|exact ⟨by omega,by omega⟩)) ?_)|refine zD 300 ?_|(apply zB <;> intro hb <;> (try simp [-zd] at hb) <;> try (exfalso;omega))|refine Ob.intro ?_ ?_))
 ·exact ⟨⟨rfl,rfl⟩,by omega,show (_+1) * 1≤140737488355328 by omega⟩
 ·have hg:=hg hb
  ((conv=>whnf);refine zT 300 [1] (qvz 0 ((qcu t l i).length+1) (appF (qcu t l i).length (digF (qcu t l i)) 1 (chop 1 [.int .u8 32])) (l.getD i 0) hg.1 hg.2 (by omega)) qa ?_)
  (repeat' ((conv=>whnf);first|refine zA ?_|refine zO ?_|refine Ob.auto ?_|refine zD 300 ?_|(apply zB <;> intro hb <;> (try simp [-zd] at hb) <;> try (exfalso;omega))|refine Ob.intro ?_ ?_))
  have hnx:=jqg t l i hb
  ((conv=>whnf);refine ⟨i+1,by omega,⟨qa,⟨⟨rfl,Le.of_eq (congrArg (AV.own 1 0 0) (by rw [← hnx];simp;omega)),trivial⟩,jqf (qcu t l i) 32 (Lib.itoa (l.getD i 0)) hnx,trivial⟩⟩,⟨qa,qa⟩,?_⟩;(first|omega|(dsimp only;omega)|skip))
 ·exact ⟨⟨rfl,rfl⟩,by omega,show (_+1) * 1≤140737488355328 by omega⟩
 ·obtain rfl:i=l.length:=by omega
  have he:=jcw t l
  exact ⟨Le.refl _,⟨rfl,Le.of_eq (congrArg (AV.own 1 0 0) (by rw [← he];simp)),trivial⟩,jqe (qcu t l l.length) 59 he,trivial⟩
structure StIn (s:Stt):Prop where
 a:∀ n∈s.at_,-9223372036854775808≤n∧n≤9223372036854775807
 v:∀ n∈s.vars,-9223372036854775808≤n∧n≤9223372036854775807
 c:∀ l∈s.chans,∀ n∈l,-9223372036854775808≤n∧n≤9223372036854775807
 h:-9223372036854775808≤s.holder∧s.holder≤9223372036854775807
 m:s.chans.length≤1000000
theorem qsq (l:List Int) (hl:l.length≤1000000) (hr:∀ n∈l,-9223372036854775808≤n∧n≤9223372036854775807):(qcc l).length≤23000000:=by
 have h1:=jcv [] l hl hr l.length
 have h2:=congrArg List.length (jcw [] l)
 simp only [zg,zap,xg,List.nil_append] at h1 h2
 omega
def keyI (s:Stt) (j:Nat):List UInt8:=qcc s.at_++qcc s.vars++(s.chans.take j).flatMap qcc
theorem jqi (s:Stt) (hs:SSz s) (hi:StIn s) (j:Nat) (hj:j≤s.chans.length):(keyI s j).length≤46000000+23000000 * j:=by
 have key:∀ (m:List (List Int)) (j:Nat),(∀ l∈m,(qcc l).length≤23000000)→((m.take j).flatMap qcc).length≤23000000 * j:=by
  intro m
  induction m with
  | nil=>intro j _;simp
  | cons x m ih=>
   intro j h
   cases j with
   | zero=>simp
   | succ j=>
    rw [List.take_succ_cons,List.flatMap_cons,zg]
    have h1:=ih j (fun n hn=>h n (zq _ hn))
    have h2:=h x (zp ..)
    omega
 have h1:=key s.chans j (fun l hl=>qsq l (hs.l l hl) (hi.c l hl))
 have h2:=qsq s.at_ hs.a hi.a
 have h3:=qsq s.vars hs.v hi.v
 unfold keyI
 simp only [zg]
 omega
theorem jqj (s:Stt) (j:Nat) (hj:j<s.chans.length):keyI s j++qcc (s.chans.getD j [])=keyI s (j+1):=by
 have h:s.chans.take (j+1)=s.chans.take j++[s.chans.getD j []]:=by
  rw [zbb,zd,ze hj];rfl
 unfold keyI
 rw [h,List.flatMap_append]
 simp
theorem jqk (l:List UInt8):qdc l.length (digF l)=l:=by
 apply List.ext_getElem
 ·simp [qdc]
 ·intro i h1 h2
  simp only [qdc,List.getElem_map,List.getElem_range,digF,qqr]
  rw [zd,ze h2]
  simp
theorem jql (s:Stt) (hs:SSz s) (hi:StIn s):Con Tryz.prog 50 [s.av] (.str (keyT s)):=by
 refine zK {} 300 Tryz.func50 (fun c0 rdb=>?_)
 (repeat' ((conv=>whnf);first|refine zA ?_|refine zO ?_|refine Ob.auto ?_|refine zD 300 ?_|(apply zB <;> intro hb <;> (try simp [-zd] at hb) <;> try (exfalso;omega))|refine Ob.intro ?_ ?_))
 refine jcx 1 0 5 1 rfl rfl ?_
 ((conv=>whnf);refine zT 300 [1,2] (qwd [] s.at_ hs.a hi.a (by simp)) (⟨⟨rfl,Le.refl _,trivial⟩,⟨⟨rfl,rfl,rfl⟩,rfl,rfl,fun k hk=>absurd hk (zh k)⟩,trivial⟩) ?_)
 (repeat' ((conv=>whnf);first|refine zA ?_|refine zO ?_|refine Ob.auto ?_|refine zD 300 ?_|(apply zB <;> intro hb <;> (try simp [-zd] at hb) <;> try (exfalso;omega))|refine Ob.intro ?_ ?_))
 ((conv=>whnf);refine zT 300 [1,2] (qwd ([]++qcc s.at_) s.vars hs.v hi.v (by have:=qsq s.at_ hs.a hi.a;simp;omega)) qa ?_)
 (repeat' ((conv=>whnf);first|refine zA ?_|refine zO ?_|refine Ob.auto ?_|refine zD 300 ?_|(apply zB <;> intro hb <;> (try simp [-zd] at hb) <;> try (exfalso;omega))|refine Ob.intro ?_ ?_))
 ((conv=>whnf);refine qm (fun _=>rfl) 300 1 (fun j:Nat=>[(19,iv j)]) (fun j=>[(1,.box 54 [.own 2 0 0 (keyI s j).length]),(2,.row [] 5 1 0 (keyI s j).length (digF (keyI s j)))]) (fun j=>j≤s.chans.length) (fun j=>s.chans.length - j) (0) (zv _) qa ⟨⟨rfl,Le.of_eq (congrArg (AV.own 2 0 0) (by simp [keyI])),trivial⟩,⟨⟨rfl,rfl,rfl⟩,rfl,by simp [keyI],fun k hk=>LeL.of_eq (by simp [keyI])⟩,trivial⟩ (fun _=>rfl) (by kernel_rfl) ?_;(conv=>whnf))
 intro j hj
 have hle:=jqi s hs hi j hj
 have hm:=hi.m
 (repeat' ((conv=>whnf);first|refine zA ?_|refine zO ?_|refine Ob.auto ?_|refine zD 300 ?_|(apply zB <;> intro hb <;> (try simp [-zd] at hb) <;> try (exfalso;omega))|refine Ob.intro ?_ ?_))
 ·have hjc:=qk s.chans j [] (by omega)
  ((conv=>whnf);refine zT 300 [1,2] (qwd (keyI s j) (s.chans.getD j []) (hs.l _ hjc) (hi.c _ hjc) (by omega)) qa ?_)
  (repeat' ((conv=>whnf);first|refine zA ?_|refine zO ?_|refine Ob.auto ?_|refine zD 300 ?_|(apply zB <;> intro hb <;> (try simp [-zd] at hb) <;> try (exfalso;omega))|refine Ob.intro ?_ ?_))
  have hnx:=jqj s j (by omega)
  ((conv=>whnf);refine ⟨j+1,by omega,⟨qa,⟨⟨rfl,Le.of_eq (congrArg (AV.own 2 0 0) (by rw [← hnx])),trivial⟩,⟨⟨rfl,rfl,rfl⟩,rfl,by rw [← hnx],fun k hk=>LeL.of_eq (by rw [← hnx])⟩,trivial⟩⟩,⟨qa,qa⟩,?_⟩;(first|omega|(dsimp only;omega)|skip))
 ·obtain rfl:j=s.chans.length:=by omega
  have hend:keyI s s.chans.length++Lib.itoa s.holder=keyT s:=by unfold keyI keyT;rw [zay]
  have hcell:∀ k,k<(keyI s s.chans.length).length+(Lib.itoa s.holder).length→appF (keyI s s.chans.length).length (digF (keyI s s.chans.length)) (Lib.itoa s.holder).length (digF (Lib.itoa s.holder)) k=digF (keyT s) k:=fun k hk=>by
   rcases qsp (keyI s s.chans.length) (Lib.itoa s.holder) k with h|h
   ·rw [h,hend]
   ·omega
  have hlen:(keyI s s.chans.length).length+(Lib.itoa s.holder).length=(keyT s).length:=by rw [← hend,zg]
  ((conv=>whnf);refine zT 300 [2] (qvz 0 (keyI s s.chans.length).length (digF (keyI s s.chans.length)) s.holder hi.h.1 hi.h.2 (by omega)) qa ?_)
  (repeat' ((conv=>whnf);first|refine zA ?_|refine zO ?_|refine Ob.auto ?_|refine zD 300 ?_|(apply zB <;> intro hb <;> (try simp [-zd] at hb) <;> try (exfalso;omega))|refine Ob.intro ?_ ?_))
  ·exact ⟨⟨rfl,rfl⟩,fun k hk=>⟨(keyT s).getD k 0,hcell k hk⟩⟩
  ·refine Le.of_eq (congrArg AV.str ?_)
   rw [← jqk (keyT s),← hlen]
   exact xp fun k hk=>congrArg qqr (hcell k (List.mem_range.1 hk))
end Go.Proofs.YtikahnkkfkoglaaGreatDoor
end
