/- Some texts of the library, one behind the other. -/
import Derived.Test.YtikahnkkfkoglaaGreatDoorY16
import Derived.Test.YtikahnkkfkoglaaGreatDoorY12
set_option linter.unusedSimpArgs false
set_option linter.unusedVariables false
section
namespace Go.Proofs.YtikahnkkfkoglaaGreatDoor
open Go Go.Sx Go.RowKit Go.St
set_option maxRecDepth 100000
set_option maxHeartbeats 2000000
theorem qlk (m:Md) (hm:MOk m):Con Tryz.prog 44 [m.av] (jj m).av:=by
 have hsz:=hm.sz
 refine zK {} 300 Tryz.func44 (fun c0 rdb=>?_)
 (repeat' ((conv=>whnf);first|refine zO ?_|refine Ob.auto ?_|(refine Ob.intro (by ((refine ⟨by omega,by omega,by omega,?_⟩;dsimp only;refine zbm (zau (?_:_≤(4000001:Int)) (zal _)) (by decide +kernel);omega))) ?_)|(refine zR 300 ?_)|fail))
 ((conv=>whnf);refine qo (fun _=>rfl) 300 1 (fun i:Nat=>[(22,iv i)]) (fun i=>[(9,.row [] 3 1 0 m.vars.length (fun j=>[if j<i then iv (m.vars.getD j vr0).value else iv 0]))]) (fun i=>i≤m.vars.length) (fun i=>m.vars.length - i) (0) (by omega) qa ⟨qda (fun k _=>by kernel_rfl),trivial⟩ (fun _=>rfl) (by kernel_rfl) ?_;(conv=>whnf))
 intro i hi
 (repeat' ((conv=>whnf);first|refine Ob.auto ?_|(apply zB <;> intro hb <;> (try simp [-List.getD_eq_getElem?_getD] at hb) <;> try (exfalso;omega))))
 ·((conv=>whnf);refine ⟨i+1,by omega,⟨qa,qa⟩,⟨qa,qa⟩,?_⟩;(first|omega|(dsimp only;omega)|skip))
 ·obtain rfl:i=m.vars.length:=by omega
  refine Le.agg ⟨Le.slc (by simp [jj]) (fun j hj=>?_),Le.slc (by simp [jj]) (fun j hj=>?_),Le.slcL (by simp [jj]) (fun j hj=>?_),Le.refl _,trivial⟩
  ·show _=[iv ((jj m).at_.getD j 0)]
   rw [jj,qrh _ _ _ _ (by simpa using hj)];kernel_rfl
  ·show [if j<m.vars.length then iv (m.vars.getD j vr0).value else iv 0]=[iv ((jj m).vars.getD j 0)]
   rw [zb (by simpa using hj),jj,jbc _ _ _ _ vr0 (by simpa using hj)]
  ·show LeL [.nils] [ints ((jj m).chans.getD j [])]
   rw [jj,qrh _ _ _ _ (by simpa using hj)]
   exact ⟨Le.nils _ _,trivial⟩
end Go.Proofs.YtikahnkkfkoglaaGreatDoor
end
section
namespace Go.Proofs.YtikahnkkfkoglaaGreatDoor
open List renaming getD_eq_getElem?_getD → zd
open Go Go.Sx Go.RowKit Go.St
set_option maxRecDepth 100000
set_option maxHeartbeats 2000000
theorem jnp (v:Vr) (s:List UInt8):Con Tryz.prog 110 [.agg v.cells,.rptr [.str s]] (.bool (v.name == s)):=by
 refine zK {} 300 Tryz.func110 (fun c0 rdb=>?_)
 (repeat' ((conv=>whnf);first|refine Ob.auto ?_|fail))
 exact Le.refl _
theorem jnq (v:Ch) (s:List UInt8):Con Tryz.prog 114 [.agg v.cells,.rptr [.str s]] (.bool (v.name == s)):=by
 refine zK {} 300 Tryz.func114 (fun c0 rdb=>?_)
 (repeat' ((conv=>whnf);first|refine Ob.auto ?_|fail))
 exact Le.refl _
theorem jnr (l:List Vr) (n:Nat) (hn:n≤l.length) (hl:n≤1000000) (s:List UInt8):Con Tryz.prog 111 [.slc 3 n (encL Vr.cells vr0 l),.fn 110 [.rptr [.str s]]] (iv (Go.St.idx (fun v:Vr=>v.name == s) (l.take n))):=by
 have htk:∀ j:Nat,j<n→(l.take n).getD j vr0=l.getD j vr0:=fun j hj=>by
  rw [zd,xu,zb hj,← zd]
 have hln:(l.take n).length=n:=by rw [xa];omega
 refine zK {} 300 Tryz.func111 (fun c0 rdb=>?_)
 ((conv=>whnf);refine qo (fun _=>rfl) 300 1 (fun i:Nat=>[(8,iv i)]) (fun _=>[]) (fun i=>i≤n∧∀ j,j<i→((l.getD j vr0).name == s)=false) (fun i=>n - i) (0) (⟨by omega,fun j hj=>absurd hj (zj j)⟩) qa qa (fun _=>rfl) (by kernel_rfl) ?_;(conv=>whnf))
 intro i hi
 (repeat' ((conv=>whnf);first|refine Ob.auto ?_|refine zC 300 (jnp _ s) ?_|(apply zB <;> intro hb <;> (try simp [-zd] at hb) <;> try (exfalso;omega))))
 ·refine Le.of_eq (congrArg (AV.int _) ?_)
  exact (qhg _ (l.take n) vr0 i (by omega) (by rw [htk i (by omega)];exact beq_iff_eq.2 hb) (fun j hj=>by rw [htk j (by omega)];exact hi.2 j hj)).symm
 ·((conv=>whnf);refine ⟨i+1,⟨by omega,qbe hi.2 (beq_eq_false_iff_ne.2 hb)⟩,⟨qa,qa⟩,⟨qa,qa⟩,?_⟩;(first|omega|(dsimp only;omega)|skip))
 ·refine Le.of_eq (congrArg (AV.int _) ?_)
  exact (qhh _ (l.take n) vr0 (fun j hj=>by rw [htk j (by omega)];exact hi.2 j (by omega))).symm
theorem jns (l:List Ch) (hl:l.length≤1000000) (s:List UInt8):Con Tryz.prog 115 [slcL Ch.cells ch0 5 l,.fn 114 [.rptr [.str s]]] (iv (Go.St.idx (fun v:Ch=>v.name == s) l)):=by
 refine zK {} 300 Tryz.func115 (fun c0 rdb=>?_)
 ((conv=>whnf);refine qo (fun _=>rfl) 300 1 (fun i:Nat=>[(8,iv i)]) (fun _=>[]) (fun i=>i≤l.length∧∀ j,j<i→((l.getD j ch0).name == s)=false) (fun i=>l.length - i) (0) (⟨by omega,fun j hj=>absurd hj (zj j)⟩) qa qa (fun _=>rfl) (by kernel_rfl) ?_;(conv=>whnf))
 intro i hi
 (repeat' ((conv=>whnf);first|refine Ob.auto ?_|refine zC 300 (jnq _ s) ?_|(apply zB <;> intro hb <;> (try simp [-zd] at hb) <;> try (exfalso;omega))))
 ·refine Le.of_eq (congrArg (AV.int _) ?_)
  exact (qhg (fun v:Ch=>v.name == s) l ch0 i (by omega) (beq_iff_eq.2 hb) hi.2).symm
 ·((conv=>whnf);refine ⟨i+1,⟨by omega,qbe hi.2 (beq_eq_false_iff_ne.2 hb)⟩,⟨qa,qa⟩,⟨qa,qa⟩,?_⟩;(first|omega|(dsimp only;omega)|skip))
 ·refine Le.of_eq (congrArg (AV.int _) ?_)
  exact (qhh _ l ch0 (fun j hj=>hi.2 j (by omega))).symm
theorem jnt (l:List (List UInt8)) (hl:l.length≤1000000) (s:List UInt8):Con Tryz.prog 112 [strs l,.str s] (iv (Go.St.idx (· == s) l)):=by
 refine zK {} 300 Tryz.func112 (fun c0 rdb=>?_)
 ((conv=>whnf);refine qo (fun _=>rfl) 300 1 (fun i:Nat=>[(8,iv i)]) (fun _=>[]) (fun i=>i≤l.length∧∀ j,j<i→(l.getD j [] == s)=false) (fun i=>l.length - i) (0) (⟨by omega,fun j hj=>absurd hj (zj j)⟩) qa qa (fun _=>rfl) (by kernel_rfl) ?_;(conv=>whnf))
 intro i hi
 (repeat' ((conv=>whnf);first|refine Ob.auto ?_|(apply zB <;> intro hb <;> (try simp [-zd] at hb) <;> try (exfalso;omega))))
 ·refine Le.of_eq (congrArg (AV.int _) ?_)
  exact (qhg (· == s) l [] i (by omega) (beq_iff_eq.2 hb.symm) hi.2).symm
 ·((conv=>whnf);refine ⟨i+1,⟨by omega,qbe hi.2 (beq_eq_false_iff_ne.2 (Ne.symm hb))⟩,⟨qa,qa⟩,⟨qa,qa⟩,?_⟩;(first|omega|(dsimp only;omega)|skip))
 ·refine Le.of_eq (congrArg (AV.int _) ?_)
  exact (qhh _ l [] (fun j hj=>hi.2 j (by omega))).symm
def varV (m:Md) (p:Int) (s:Stt) (n:List UInt8):Int × Bool:=if varN m p n<0 then (0,false) else (s.vars.getD (varN m p n).toNat 0,true)
def lenV (m:Md) (s:Stt) (n:List UInt8):Int × Bool:=if Go.St.idx (fun c:Ch=>c.name == n) m.chans<0 then (0,false) else ((s.chans.getD (Go.St.idx (fun c:Ch=>c.name == n) m.chans).toNat []).length,true)
theorem jnu (m:Md) (hm:MOk m) (p:Int) (s:Stt) (hs:SOk m s) (n:List UInt8):Con Tryz.prog 109 [.str n,.rptr [iv p],.rptr m.cells,.rptr s.cells] (qlh (varV m p s n)):=by
 have hg:=hm.glob
 have hsz:=hm.sz
 have hvl:=hs.vl
 have hcl:=hs.cl
 have hvn:=jay hm p n
 by_cases hp:0≤p∧p<m.procs.length
 ·have hq:=hm.procs _ (qm m.procs p.toNat pr0 (by omega))
  have hq2:=hm.psz _ (qm m.procs p.toNat pr0 (by omega))
  have hv:varN m p n=_:=zb hp
  have hix:=qil (· == n) (m.procs.getD p.toNat pr0).names
  have hqv:=fun (h:0≤Go.St.idx (· == n) (m.procs.getD p.toNat pr0).names)=>hq.2 _ (qm (m.procs.getD p.toNat pr0).vars (Go.St.idx (· == n) (m.procs.getD p.toNat pr0).names).toNat 0 (by omega))
  refine zK {} 300 Tryz.func109 (fun c0 rdb=>?_)
  (repeat' ((conv=>whnf);first|refine zO ?_|refine Ob.auto ?_|refine zC 300 (jnt (m.procs.getD p.toNat pr0).names (by omega) n) ?_|(refine zP 300 ?_)|(apply zB <;> intro hb <;> (try simp [-zd] at hb) <;> try (exfalso;omega))))
  ·have:=hqv (by omega)
   rw [za (by omega)] at hv
   refine Le.of_eq ?_
   rw [varV,za (by omega),hv];rfl
  ·rw [zb (by omega)] at hv
   refine Le.of_eq ?_
   rw [varV,zb (by omega)];rfl
 ·have hv:varN m p n=_:=za hp
  refine zK {} 300 Tryz.func109 (fun c0 rdb=>?_)
  (repeat' ((conv=>whnf);first|refine Ob.auto ?_|(refine ql (fun _=>rfl) 300 (jnr m.vars m.globals.toNat (by omega) (by omega) n) qc (by (repeat' (first|exact trivial|exact Le.refl _|(refine And.intro ?_ ?_))) <;> fail) (by rfl) (by kernel_rfl) ?_)|(apply zB <;> intro hb <;> (try simp [-zd] at hb) <;> try (exfalso;omega))))
  ·refine Le.of_eq ?_
   rw [varV,za (by omega),hv];rfl
  ·refine Le.of_eq ?_
   rw [varV,zb (by omega)];rfl
theorem jnv (m:Md) (hm:MOk m) (s:Stt) (hs:SOk m s) (n:List UInt8):Con Tryz.prog 113 [.str n,.rptr m.cells,.rptr s.cells] (qlh (lenV m s n)):=by
 have hsz:=hm.sz
 have hcl:=hs.cl
 have hi:=qil (fun c:Ch=>c.name == n) m.chans
 refine zK {} 300 Tryz.func113 (fun c0 rdb=>?_)
 (repeat' ((conv=>whnf);first|refine Ob.auto ?_|(refine ql (fun _=>rfl) 300 (jns m.chans (by omega) n) qc (by (repeat' (first|exact trivial|exact Le.refl _|(refine And.intro ?_ ?_))) <;> fail) (by rfl) (by kernel_rfl) ?_)|(apply zB <;> intro hb <;> (try simp [-zd] at hb) <;> try (exfalso;omega))))
 ·refine Le.of_eq ?_
  rw [lenV,za (by omega)];rfl
 ·refine Le.of_eq ?_
  rw [lenV,zb (by omega)];rfl
def jbi (m:Md) (p:Int) (s:Stt):AV:=.agg [jr m.tree,.fn 109 [.rptr [iv p],.rptr m.cells,.rptr s.cells],.fn 113 [.rptr m.cells,.rptr s.cells]]
theorem qer (m:Md) (p:Int) (s:Stt):Con Tryz.prog 79 [m.av,iv p,s.av] (jbi m p s):=by
 refine zK {} 300 Tryz.func79 (fun c0 rdb=>?_)
 (repeat' ((conv=>whnf);first|refine Ob.auto ?_|fail))
 exact Le.of_eq (by kernel_rfl)
theorem qes (m:Md) (hm:MOk m) (p:Int) (s:Stt) (hs:SOk m s):∀ (n:Nat) (k:Int),0≤k→k<m.tree.length→m.tree.length - k.toNat≤n→Con Tryz.prog 80 [jbi m p s,iv k] (qlh (valN m p s n k)):=by
 intro n
 induction n with
 | zero=>intro k h0 h1 h2;omega
 | succ n ih=>
  intro k h0 h1 h2
  have hnd:=hm.tree k.toNat (by omega)
  have h17:=hnd.num
  have h18:=hnd.word
  have h20:=hnd.un
  have h22:=hnd.bin
  have hsz:=hm.sz
  have hvb:=jmu hm hs p n
  have hvl:=hs.vl
  have hcl:=hs.cl
  have hk0:(m.tree.getD k.toNat nd0).kind=20∨(m.tree.getD k.toNat nd0).kind=21∨(m.tree.getD k.toNat nd0).kind=22→0≤(m.tree.getD k.toNat nd0).kids.getD 0 0∧(m.tree.getD k.toNat nd0).kids.getD 0 0<m.tree.length∧m.tree.length - ((m.tree.getD k.toNat nd0).kids.getD 0 0).toNat≤n:=by omega
  have hk1:(m.tree.getD k.toNat nd0).kind=22→0≤(m.tree.getD k.toNat nd0).kids.getD 1 0∧(m.tree.getD k.toNat nd0).kids.getD 1 0<m.tree.length∧m.tree.length - ((m.tree.getD k.toNat nd0).kids.getD 1 0).toNat≤n:=by omega
  have hb0:=hvb ((m.tree.getD k.toNat nd0).kids.getD 0 0)
  have hb1:=hvb ((m.tree.getD k.toNat nd0).kids.getD 1 0)
  refine zK {} 600 Tryz.func80 (fun c0 rdb=>?_)
  (repeat' ((conv=>whnf);first|refine zO ?_|refine Ob.auto ?_|refine zC 600 (qlj _ _) ?_|refine zX (jnu m hm p s hs _) ?_|refine zX (jnv m hm s hs _) ?_|refine zC 600 (jbg _) ?_|refine zC 600 (jnk _ _ _ (by omega) (by omega)) ?_|refine zX (ih ((m.tree.getD k.toNat nd0).kids.getD 0 0) (hk0 (by omega)).1 (hk0 (by omega)).2.1 (hk0 (by omega)).2.2) ?_|refine zX (ih ((m.tree.getD k.toNat nd0).kids.getD 1 0) (hk1 (by omega)).1 (hk1 (by omega)).2.1 (hk1 (by omega)).2.2) ?_|(refine zP 600 ?_)|(apply zB <;> intro hb <;> (try simp [-zd] at hb) <;> try (exfalso;omega))))
  ·refine Le.of_eq ?_
   rw [valN,zb (by assumption)];rfl
  ·refine Le.of_eq ?_
   rw [valN,za (by assumption),zb (by assumption)];rfl
  ·refine Le.of_eq ?_
   rw [valN,za (by assumption),za (by assumption),zb (by assumption)];rfl
  ·refine Le.of_eq ?_
   rw [valN,za (by assumption),za (by assumption),za (by assumption),zb (by assumption)];rfl
  ·refine Le.of_eq ?_
   rw [jaz m p s n k (by assumption),hb];rfl
  ·refine Le.of_eq ?_
   rw [jaz m p s n k (by assumption),hb,zas];rfl
  ·refine Le.of_eq ?_
   rw [jba m p s n k (by assumption),binF,za (fun h=>by rcases hb with hb|hb <;> rw [hb] at h <;> simp at h)];rfl
  ·refine Le.of_eq ?_
   rw [jba m p s n k (by assumption),binF,zb hb];rfl
  ·refine Le.of_eq ?_
   rw [valN,za (by assumption),za (by assumption),za (by assumption),za (by assumption),za (by assumption),za (by assumption)];rfl
theorem qup {m:Md} {s:Stt} (hm:MOk m) (h:fitsB m s=true):SOk m s:=by
 obtain ⟨h0,hA,hV,hC⟩:=(qao m s).1 h
 refine ⟨h0.2.1,h0.2.2.1,fun v hv=>?_,fun c hc=>?_⟩
 ·obtain ⟨i,hi,rfl⟩:=List.mem_iff_getElem.1 hv
  have h1:=hV i hi
  have h2:=qnk (s.vars.getD i 0) (m.vars.getD i vr0).width
  unfold qjw at h1
  rw [h1] at h2
  rw [zd,ze hi] at h2
  simp only [zaj] at h2
  omega
 ·obtain ⟨i,hi,rfl⟩:=List.mem_iff_getElem.1 hc
  have h1:=(hC i hi).1
  have h2:=hm.chan _ (qm m.chans i ch0 (by omega))
  unfold qim at h1
  rw [zd,ze hi] at h1
  simp only [zaj] at h1
  omega
def sval (m:Md) (p:Int) (s:Stt) (k:Int):Int × Bool:=if 0≤k∧k<m.tree.length∧fitsB m s=true then val m p s k else (0,false)
theorem quq (m:Md) (hm:MOk m) (p:Int) (s:Stt) (hs:SSz s) (k:Int):Con Tryz.prog 118 [m.av,iv p,s.av,iv k] (qlh (sval m p s k)):=by
 have hsz:=hm.sz
 by_cases hf:0≤k∧k<m.tree.length∧fitsB m s=true
 ·have hso:=qup hm hf.2.2
  refine zK {} 300 Tryz.func118 (fun c0 rdb=>?_)
  (repeat' ((conv=>whnf);first|refine zO ?_|refine Ob.auto ?_|refine zC 300 (qab m s hs) ?_|refine zG 300 (fun hg=>qab m s hs) ?_|refine zX (qab m s hs) ?_|refine zY (fun hg=>qab m s hs) ?_|refine zC 300 (qer m p s) ?_|refine zG 300 (fun hg=>qer m p s) ?_|refine zX (qer m p s) ?_|refine zY (fun hg=>qer m p s) ?_|refine zC 300 (qes m hm p s hso m.tree.length k (by omega) (by omega) (by omega)) ?_|refine zG 300 (fun hg=>qes m hm p s hso m.tree.length k (by omega) (by omega) (by omega)) ?_|refine zX (qes m hm p s hso m.tree.length k (by omega) (by omega) (by omega)) ?_|refine zY (fun hg=>qes m hm p s hso m.tree.length k (by omega) (by omega) (by omega)) ?_|(refine ql (fun _=>rfl) 300 (qab m s hs) qc (by (repeat' (first|exact trivial|exact Le.refl _|(refine And.intro ?_ ?_))) <;> fail) (by rfl) (by kernel_rfl) ?_)|(refine qw (fun _=>rfl) 300 (fun hg=>qab m s hs) (fun hg=>qc) (fun hg=>(by (repeat' (first|exact trivial|exact Le.refl _|exact Le.cnd hg|(refine And.intro ?_ ?_))) <;> fail)) (by rfl) (by kernel_rfl) ?_)|(refine ql (fun _=>rfl) 300 (qer m p s) qc (by (repeat' (first|exact trivial|exact Le.refl _|(refine And.intro ?_ ?_))) <;> fail) (by rfl) (by kernel_rfl) ?_)|(refine qw (fun _=>rfl) 300 (fun hg=>qer m p s) (fun hg=>qc) (fun hg=>(by (repeat' (first|exact trivial|exact Le.refl _|exact Le.cnd hg|(refine And.intro ?_ ?_))) <;> fail)) (by rfl) (by kernel_rfl) ?_)|(refine ql (fun _=>rfl) 300 (qes m hm p s hso m.tree.length k (by omega) (by omega) (by omega)) qc (by (repeat' (first|exact trivial|exact Le.refl _|(refine And.intro ?_ ?_))) <;> fail) (by rfl) (by kernel_rfl) ?_)|(refine qw (fun _=>rfl) 300 (fun hg=>qes m hm p s hso m.tree.length k (by omega) (by omega) (by omega)) (fun hg=>qc) (fun hg=>(by (repeat' (first|exact trivial|exact Le.refl _|exact Le.cnd hg|(refine And.intro ?_ ?_))) <;> fail)) (by rfl) (by kernel_rfl) ?_)|(refine zP 300 ?_)|(apply zB <;> intro hb <;> (try simp [-zd] at hb) <;> try (exfalso;omega))|refine Ob.intro ?_ ?_))
  ·exfalso;rcases hb with hb|hb
   ·omega
   ·rw [hf.2.2] at hb;cases hb
  ·refine Le.of_eq ?_
   rw [sval,zb hf];rfl
 ·refine zK {} 300 Tryz.func118 (fun c0 rdb=>?_)
  (repeat' ((conv=>whnf);first|refine zO ?_|refine Ob.auto ?_|refine zC 300 (qab m s hs) ?_|refine zG 300 (fun hg=>qab m s hs) ?_|refine zX (qab m s hs) ?_|refine zY (fun hg=>qab m s hs) ?_|(refine ql (fun _=>rfl) 300 (qab m s hs) qc (by (repeat' (first|exact trivial|exact Le.refl _|(refine And.intro ?_ ?_))) <;> fail) (by rfl) (by kernel_rfl) ?_)|(refine qw (fun _=>rfl) 300 (fun hg=>qab m s hs) (fun hg=>qc) (fun hg=>(by (repeat' (first|exact trivial|exact Le.refl _|exact Le.cnd hg|(refine And.intro ?_ ?_))) <;> fail)) (by rfl) (by kernel_rfl) ?_)|(refine zP 300 ?_)|(apply zB <;> intro hb <;> (try simp [-zd] at hb) <;> try (exfalso;omega))|refine Ob.intro ?_ ?_))
  ·refine Le.of_eq ?_
   rw [sval,za hf];rfl
  ·exact absurd ⟨hb.1.1,hb.1.2,hb.2⟩ hf
theorem jnw (m:Md) (hm:MOk m) (s:Stt) (hs:SSz s):Con Tryz.prog 46 [m.av,s.av] (.bool (m.safe.isEmpty || fitsB m s && qnl m s)):=by
 have hsz:=hm.sz
 have hsf:=hm.safe
 by_cases hf:fitsB m s=true
 ·have hso:=qup hm hf
  refine zK {} 300 Tryz.func46 (fun c0 rdb=>?_)
  (repeat' ((conv=>whnf);first|refine zO ?_|refine Ob.auto ?_|refine zC 300 (qab m s hs) ?_|refine zG 300 (fun hg=>qab m s hs) ?_|refine zX (qab m s hs) ?_|refine zY (fun hg=>qab m s hs) ?_|refine zC 300 (qer m (-1) s) ?_|refine zG 300 (fun hg=>qer m (-1) s) ?_|refine zX (qer m (-1) s) ?_|refine zY (fun hg=>qer m (-1) s) ?_|(refine ql (fun _=>rfl) 300 (qab m s hs) qc (by (repeat' (first|exact trivial|exact Le.refl _|(refine And.intro ?_ ?_))) <;> fail) (by rfl) (by kernel_rfl) ?_)|(refine qw (fun _=>rfl) 300 (fun hg=>qab m s hs) (fun hg=>qc) (fun hg=>(by (repeat' (first|exact trivial|exact Le.refl _|exact Le.cnd hg|(refine And.intro ?_ ?_))) <;> fail)) (by rfl) (by kernel_rfl) ?_)|(refine ql (fun _=>rfl) 300 (qer m (-1) s) qc (by (repeat' (first|exact trivial|exact Le.refl _|(refine And.intro ?_ ?_))) <;> fail) (by rfl) (by kernel_rfl) ?_)|(refine qw (fun _=>rfl) 300 (fun hg=>qer m (-1) s) (fun hg=>qc) (fun hg=>(by (repeat' (first|exact trivial|exact Le.refl _|exact Le.cnd hg|(refine And.intro ?_ ?_))) <;> fail)) (by rfl) (by kernel_rfl) ?_)|(refine zP 300 ?_)|(apply zB <;> intro hb <;> (try simp [-zd] at hb) <;> try (exfalso;omega))|refine Ob.intro ?_ ?_))
  ·refine Le.of_eq (congrArg AV.bool ?_)
   simp [hb]
  ·rw [hf] at hb;cases hb
  ·rename_i hne
   have hemp:m.safe.isEmpty=false:=by simp [hne]
   ((conv=>whnf);refine qo (fun _=>rfl) 300 1 (fun i:Nat=>[(24,iv i)]) (fun _=>[]) (fun i=>i≤m.safe.length∧∀ j,j<i→qrd m s (m.safe.getD j 0)=true) (fun i=>m.safe.length - i) (0) (⟨by omega,fun j hj=>absurd hj (zj j)⟩) qa qa (fun _=>rfl) (by kernel_rfl) ?_;(conv=>whnf))
   intro i hi
   have hki:i<m.safe.length→_:=fun h=>hsf _ (qm m.safe i 0 h)
   (repeat' ((conv=>whnf);first|refine zO ?_|refine Ob.auto ?_|refine zC 300 (qes m hm (-1) s hso m.tree.length (m.safe.getD i 0) (hki (by omega)).1 (hki (by omega)).2 (by omega)) ?_|refine zG 300 (fun hg=>qes m hm (-1) s hso m.tree.length (m.safe.getD i 0) (hki (by omega)).1 (hki (by omega)).2 (by omega)) ?_|refine zX (qes m hm (-1) s hso m.tree.length (m.safe.getD i 0) (hki (by omega)).1 (hki (by omega)).2 (by omega)) ?_|refine zY (fun hg=>qes m hm (-1) s hso m.tree.length (m.safe.getD i 0) (hki (by omega)).1 (hki (by omega)).2 (by omega)) ?_|(refine ql (fun _=>rfl) 300 (qes m hm (-1) s hso m.tree.length (m.safe.getD i 0) (hki (by omega)).1 (hki (by omega)).2 (by omega)) qc (by (repeat' (first|exact trivial|exact Le.refl _|(refine And.intro ?_ ?_))) <;> fail) (by rfl) (by kernel_rfl) ?_)|(refine qw (fun _=>rfl) 300 (fun hg=>qes m hm (-1) s hso m.tree.length (m.safe.getD i 0) (hki (by omega)).1 (hki (by omega)).2 (by omega)) (fun hg=>qc) (fun hg=>(by (repeat' (first|exact trivial|exact Le.refl _|exact Le.cnd hg|(refine And.intro ?_ ?_))) <;> fail)) (by rfl) (by kernel_rfl) ?_)|(refine zP 300 ?_)|(apply zB <;> intro hb <;> (try simp [-zd] at hb) <;> try (exfalso;omega))|refine Ob.intro ?_ ?_))
   ·refine Le.of_eq (congrArg AV.bool ?_)
    rw [hf,hemp,zax,zas]
    refine (qrf 0 (j:=i) (by omega) ?_).symm
    simp only [qrd,val]
    rcases hb with hb|hb <;> simp [-zd,hb]
   ·((conv=>whnf);refine ⟨i+1,⟨by omega,qbe hi.2 (by simp only [qrd,val];simp [-zd,hb])⟩,⟨qa,qa⟩,⟨qa,qa⟩,?_⟩;(first|omega|(dsimp only;omega)|skip))
   ·refine Le.of_eq (congrArg AV.bool ?_)
    rw [hf,hemp,zax,zas]
    exact (qre 0 (fun j hj=>hi.2 j (by omega))).symm
 ·refine zK {} 300 Tryz.func46 (fun c0 rdb=>?_)
  (repeat' ((conv=>whnf);first|refine zO ?_|refine Ob.auto ?_|refine zC 300 (qab m s hs) ?_|refine zG 300 (fun hg=>qab m s hs) ?_|refine zX (qab m s hs) ?_|refine zY (fun hg=>qab m s hs) ?_|(refine ql (fun _=>rfl) 300 (qab m s hs) qc (by (repeat' (first|exact trivial|exact Le.refl _|(refine And.intro ?_ ?_))) <;> fail) (by rfl) (by kernel_rfl) ?_)|(refine qw (fun _=>rfl) 300 (fun hg=>qab m s hs) (fun hg=>qc) (fun hg=>(by (repeat' (first|exact trivial|exact Le.refl _|exact Le.cnd hg|(refine And.intro ?_ ?_))) <;> fail)) (by rfl) (by kernel_rfl) ?_)|(refine zP 300 ?_)|(apply zB <;> intro hb <;> (try simp [-zd] at hb) <;> try (exfalso;omega))|refine Ob.intro ?_ ?_))
  ·refine Le.of_eq (congrArg AV.bool ?_)
   simp [hb]
  ·rename_i hne
   refine Le.of_eq (congrArg AV.bool ?_)
   simp [hb,hne]
  ·exact absurd hb hf
end Go.Proofs.YtikahnkkfkoglaaGreatDoor
end
