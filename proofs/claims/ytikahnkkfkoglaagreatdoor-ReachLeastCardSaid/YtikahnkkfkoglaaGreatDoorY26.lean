/- Some texts of the library, one behind the other. -/
import Derived.Test.YtikahnkkfkoglaaGreatDoorY25
import Derived.Test.YtikahnkkfkoglaaGreatDoorY22
set_option linter.unusedSimpArgs false
set_option linter.unusedVariables false
section
namespace Go.Proofs.YtikahnkkfkoglaaGreatDoor
open List renaming getD_eq_getElem?_getD → zd
open Go Go.Sx Go.RowKit Go.St
set_option maxRecDepth 100000
set_option maxHeartbeats 2000000
theorem jpp (x:Int) (c:Ch):Con Tryz.prog 77 [iv x,.rptr c.cells] (.bool (!(trim x c.width == x))):=by
 refine zK {} 300 Tryz.func77 (fun c0 rdb=>?_)
 (repeat' ((conv=>whnf);first|refine Ob.auto ?_|refine zC 300 (jcm _ _) ?_|fail))
 exact Le.refl _
theorem jpq (l:List Int) (c:Ch) (hl:l.length≤1000000):Con Tryz.prog 108 [ints l,.fn 77 [.rptr c.cells]] (iv (idx (fun x=>!(trim x c.width == x)) l)):=by
 refine zK {} 300 Tryz.func108 (fun c0 rdb=>?_)
 ((conv=>whnf);refine qm (fun _=>rfl) 300 1 (fun i:Nat=>[(8,iv i)]) (fun _=>[]) (fun i=>i≤l.length∧∀ j,j<i→(!(trim (l.getD j 0) c.width == l.getD j 0))=false) (fun i=>l.length - i) (0) (⟨by omega,fun j hj=>absurd hj (zh j)⟩) qa qa (fun _=>rfl) (by kernel_rfl) ?_;(conv=>whnf))
 intro i hi
 (repeat' ((conv=>whnf);first|refine Ob.auto ?_|refine zC 300 (jpp _ c) ?_|(apply zB <;> intro hb <;> (try simp [-zd] at hb) <;> try (exfalso;omega))))
 ·refine Le.of_eq (congrArg (AV.int _) ?_)
  exact (qfb _ l 0 i (by omega) (by simp [-zd,hb]) hi.2).symm
 ·((conv=>whnf);refine ⟨i+1,⟨by omega,qaf hi.2 (by simp [-zd,hb])⟩,⟨qa,qa⟩,⟨qa,qa⟩,?_⟩;(first|omega|(dsimp only;omega)|skip))
 ·refine Le.of_eq (congrArg (AV.int _) ?_)
  exact (qfc _ l 0 (fun j hj=>hi.2 j (by omega))).symm
theorem jpr {α:Type} (q:α→Bool) (l:List α):decide (0≤Go.St.idx q l)=l.any q:=by
 unfold Go.St.idx
 cases h:l.findIdx? q with
 | none=>
  rw [List.findIdx?_eq_none_iff] at h
  have:l.any q=false:=by rw [xf];intro h';rw [List.any_eq_true] at h';obtain ⟨x,hx,hq⟩:=h';rw [h x hx] at hq;cases hq
  rw [this];rfl
 | some i=>
  rw [zaq] at h
  obtain ⟨h1,h2,_⟩:=h
  have:l.any q=true:=by rw [List.any_eq_true];exact ⟨_,zaa h1,h2⟩
  rw [this];exact xn (by simp)
theorem jps (l:List Int) (c:Ch) (hl:l.length≤1000000):Con Tryz.prog 78 [ints l,.fn 77 [.rptr c.cells]] (.bool (l.any fun x=>!(trim x c.width == x))):=by
 refine zK {} 300 Tryz.func78 (fun c0 rdb=>?_)
 (repeat' ((conv=>whnf);first|refine Ob.auto ?_|refine zC 300 (jpq l c hl) ?_|fail))
 refine Le.of_eq (congrArg AV.bool ?_)
 exact jpr _ l
theorem qag (m:Md) (s:Stt) (hs:SSz s):Con Tryz.prog 45 [m.av,s.av] (.bool (fitsB m s)):=by
 have ha:=hs.a
 have hv:=hs.v
 have hc:=hs.c
 refine zK {} 600 Tryz.func45 (fun c0 rdb=>?_)
 (repeat' ((conv=>whnf);first|refine Ob.auto ?_|(apply zB <;> intro hb <;> (try simp [-zd] at hb) <;> try (exfalso;omega))))
 ·refine Le.of_eq (congrArg AV.bool ?_)
  exact (jcf (by unfold qor;omega)).symm
 have h0:s.at_.length=m.procs.length∧s.vars.length=m.vars.length∧s.chans.length=m.chans.length:=by omega
 clear hb
 ((conv=>whnf);refine qm (fun _=>rfl) 600 1 (fun i:Nat=>[(41,iv i)]) (fun _=>[]) (fun i=>i≤s.at_.length∧∀ j,j<i→qjc m s j) (fun i=>s.at_.length - i) (0) (⟨by omega,fun j hj=>absurd hj (zh j)⟩) qa qa (fun _=>rfl) (by kernel_rfl) ?_;(conv=>whnf))
 intro i hi
 (repeat' ((conv=>whnf);first|refine Ob.auto ?_|(apply zB <;> intro hb <;> (try simp [-zd] at hb) <;> try (exfalso;omega))))
 ·refine Le.of_eq (congrArg AV.bool ?_)
  exact (jow i (by omega) (by omega)).symm
 ·((conv=>whnf);refine ⟨i+1,⟨by omega,qaf hi.2 hb⟩,⟨qa,qa⟩,⟨qa,qa⟩,?_⟩;(first|omega|(dsimp only;omega)|skip))
 obtain rfl:i=s.at_.length:=by omega
 have hA:=hi.2
 clear hi hb
 ((conv=>whnf);refine qm (fun _=>rfl) 600 2 (fun i:Nat=>[(62,iv i)]) (fun _=>[]) (fun i=>i≤s.vars.length∧∀ j,j<i→qkt m s j) (fun i=>s.vars.length - i) (0) (⟨by omega,fun j hj=>absurd hj (zh j)⟩) qa qa (fun _=>rfl) (by kernel_rfl) ?_;(conv=>whnf))
 intro i hi
 (repeat' ((conv=>whnf);first|refine Ob.auto ?_|refine zC 600 (jcm _ _) ?_|(apply zB <;> intro hb <;> (try simp [-zd] at hb) <;> try (exfalso;omega))))
 ·refine Le.of_eq (congrArg AV.bool ?_)
  exact (jox i (by omega) hb).symm
 ·((conv=>whnf);refine ⟨i+1,⟨by omega,qaf hi.2 hb⟩,⟨qa,qa⟩,⟨qa,qa⟩,?_⟩;(first|omega|(dsimp only;omega)|skip))
 obtain rfl:i=s.vars.length:=by omega
 have hV:=hi.2
 clear hi hb
 ((conv=>whnf);refine qm (fun _=>rfl) 600 3 (fun i:Nat=>[(80,iv i)]) (fun _=>[]) (fun i=>i≤s.chans.length∧∀ j,j<i→qjd m s j∧∀ k,k<(s.chans.getD j []).length→qku m s j k) (fun i=>s.chans.length - i) (0) (⟨by omega,fun j hj=>absurd hj (zh j)⟩) qa qa (fun _=>rfl) (by kernel_rfl) ?_;(conv=>whnf))
 intro i hi
 have hlc:i<s.chans.length→_:=fun h=>hs.l _ (qk s.chans i [] h)
 (repeat' ((conv=>whnf);first|refine Ob.auto ?_|(refine qq (fun _=>rfl) 600 (fun hg=>jps (s.chans.getD i []) (m.chans.getD i ch0) (hlc (by omega))) (fun hg=>qc) (fun hg=>(by (repeat' (first|exact trivial|exact Le.refl _|exact Le.cnd hg|(refine And.intro ?_ ?_))) <;> fail)) (by rfl) (by kernel_rfl) ?_)|(apply zB <;> intro hb <;> (try simp [-zd] at hb) <;> try (exfalso;omega))))
 ·refine Le.of_eq (congrArg AV.bool ?_)
  rcases hb with hb|⟨x,hx,hb⟩
  ·exact (joy i (by omega) (by unfold qjd;omega)).symm
  ·obtain ⟨k,hk,hx⟩:=List.mem_iff_getElem.1 hx
   refine (joz i k (by omega) hk ?_).symm
   have:(s.chans.getD i []).getD k 0=x:=by rw [zd,ze hk];exact hx
   unfold qku
   rw [this];exact hb
 ·((conv=>whnf);refine ⟨i+1,⟨by omega,qaf hi.2 ⟨by unfold qjd;omega,fun k hk=>hb.2 _ (qk _ k 0 hk)⟩⟩,⟨qa,qa⟩,⟨qa,qa⟩,?_⟩;(first|omega|(dsimp only;omega)|skip))
 ·refine Le.of_eq (congrArg AV.bool ?_)
  by_cases hh:-1≤s.holder∧s.holder<m.procs.length
  ·rw [(jn m s).2 ⟨⟨h0.1,h0.2.1,h0.2.2,hh⟩,hA,hV,fun j hj=>hi.2 j (by omega)⟩]
   simp [hh]
  ·rw [jcf (m:=m) (s:=s) (by unfold qor;omega)]
   simp;omega
end Go.Proofs.YtikahnkkfkoglaaGreatDoor
end
section
namespace Go.Proofs.YtikahnkkfkoglaaGreatDoor
open Go Go.Sx Go.RowKit Go.St
set_option maxRecDepth 100000
set_option maxHeartbeats 2000000
theorem qmg (m:Md) (hm:MOk m):Con Tryz.prog 44 [m.av] (qw m).av:=by
 have hsz:=hm.sz
 refine zK {} 300 Tryz.func44 (fun c0 rdb=>?_)
 (repeat' ((conv=>whnf);first|refine zO ?_|refine Ob.auto ?_|(refine Ob.intro (by ((refine ⟨by omega,by omega,by omega,?_⟩;dsimp only;refine zbq (zax (?_:_≤(4000001:Int)) (zao _)) (by decide +kernel);omega))) ?_)|(refine zR 300 ?_)|fail))
 ((conv=>whnf);refine qm (fun _=>rfl) 300 1 (fun i:Nat=>[(22,iv i)]) (fun i=>[(9,.row [] 3 1 0 m.vars.length (fun j=>[if j<i then iv (m.vars.getD j vr0).value else iv 0]))]) (fun i=>i≤m.vars.length) (fun i=>m.vars.length - i) (0) (by omega) qa ⟨qcb (fun k _=>by kernel_rfl),trivial⟩ (fun _=>rfl) (by kernel_rfl) ?_;(conv=>whnf))
 intro i hi
 (repeat' ((conv=>whnf);first|refine Ob.auto ?_|(apply zB <;> intro hb <;> (try simp [-List.getD_eq_getElem?_getD] at hb) <;> try (exfalso;omega))))
 ·((conv=>whnf);refine ⟨i+1,by omega,⟨qa,qa⟩,⟨qa,qa⟩,?_⟩;(first|omega|(dsimp only;omega)|skip))
 ·obtain rfl:i=m.vars.length:=by omega
  refine Le.agg ⟨Le.slc (by simp [qw]) (fun j hj=>?_),Le.slc (by simp [qw]) (fun j hj=>?_),Le.slcL (by simp [qw]) (fun j hj=>?_),Le.refl _,trivial⟩
  ·show _=[iv ((qw m).at_.getD j 0)]
   rw [qw,qme _ _ _ _ (by simpa using hj)];kernel_rfl
  ·show [if j<m.vars.length then iv (m.vars.getD j vr0).value else iv 0]=[iv ((qw m).vars.getD j 0)]
   rw [zb (by simpa using hj),qw,qvy _ _ _ _ vr0 (by simpa using hj)]
  ·show LeL [.nils] [ints ((qw m).chans.getD j [])]
   rw [qw,qme _ _ _ _ (by simpa using hj)]
   exact ⟨Le.nils _ _,trivial⟩
end Go.Proofs.YtikahnkkfkoglaaGreatDoor
end
section
namespace Go.Proofs.YtikahnkkfkoglaaGreatDoor
open List renaming getD_eq_getElem?_getD → zd
open Go Go.Sx Go.RowKit Go.St
set_option maxRecDepth 100000
set_option maxHeartbeats 2000000
theorem jpt (v:Vr) (s:List UInt8):Con Tryz.prog 110 [.agg v.cells,.rptr [.str s]] (.bool (v.name == s)):=by
 refine zK {} 300 Tryz.func110 (fun c0 rdb=>?_)
 (repeat' ((conv=>whnf);first|refine Ob.auto ?_|fail))
 exact Le.refl _
theorem jpu (v:Ch) (s:List UInt8):Con Tryz.prog 114 [.agg v.cells,.rptr [.str s]] (.bool (v.name == s)):=by
 refine zK {} 300 Tryz.func114 (fun c0 rdb=>?_)
 (repeat' ((conv=>whnf);first|refine Ob.auto ?_|fail))
 exact Le.refl _
theorem jpv (l:List Vr) (n:Nat) (hn:n≤l.length) (hl:n≤1000000) (s:List UInt8):Con Tryz.prog 111 [.slc 3 n (encL Vr.cells vr0 l),.fn 110 [.rptr [.str s]]] (iv (Go.St.idx (fun v:Vr=>v.name == s) (l.take n))):=by
 have htk:∀ j:Nat,j<n→(l.take n).getD j vr0=l.getD j vr0:=fun j hj=>by
  rw [zd,xz,zb hj,← zd]
 have hln:(l.take n).length=n:=by rw [xc];omega
 refine zK {} 300 Tryz.func111 (fun c0 rdb=>?_)
 ((conv=>whnf);refine qm (fun _=>rfl) 300 1 (fun i:Nat=>[(8,iv i)]) (fun _=>[]) (fun i=>i≤n∧∀ j,j<i→((l.getD j vr0).name == s)=false) (fun i=>n - i) (0) (⟨by omega,fun j hj=>absurd hj (zh j)⟩) qa qa (fun _=>rfl) (by kernel_rfl) ?_;(conv=>whnf))
 intro i hi
 (repeat' ((conv=>whnf);first|refine Ob.auto ?_|refine zC 300 (jpt _ s) ?_|(apply zB <;> intro hb <;> (try simp [-zd] at hb) <;> try (exfalso;omega))))
 ·refine Le.of_eq (congrArg (AV.int _) ?_)
  exact (qfb _ (l.take n) vr0 i (by omega) (by rw [htk i (by omega)];exact beq_iff_eq.2 hb) (fun j hj=>by rw [htk j (by omega)];exact hi.2 j hj)).symm
 ·((conv=>whnf);refine ⟨i+1,⟨by omega,qaf hi.2 (beq_eq_false_iff_ne.2 hb)⟩,⟨qa,qa⟩,⟨qa,qa⟩,?_⟩;(first|omega|(dsimp only;omega)|skip))
 ·refine Le.of_eq (congrArg (AV.int _) ?_)
  exact (qfc _ (l.take n) vr0 (fun j hj=>by rw [htk j (by omega)];exact hi.2 j (by omega))).symm
theorem jpw (l:List Ch) (hl:l.length≤1000000) (s:List UInt8):Con Tryz.prog 115 [slcL Ch.cells ch0 5 l,.fn 114 [.rptr [.str s]]] (iv (Go.St.idx (fun v:Ch=>v.name == s) l)):=by
 refine zK {} 300 Tryz.func115 (fun c0 rdb=>?_)
 ((conv=>whnf);refine qm (fun _=>rfl) 300 1 (fun i:Nat=>[(8,iv i)]) (fun _=>[]) (fun i=>i≤l.length∧∀ j,j<i→((l.getD j ch0).name == s)=false) (fun i=>l.length - i) (0) (⟨by omega,fun j hj=>absurd hj (zh j)⟩) qa qa (fun _=>rfl) (by kernel_rfl) ?_;(conv=>whnf))
 intro i hi
 (repeat' ((conv=>whnf);first|refine Ob.auto ?_|refine zC 300 (jpu _ s) ?_|(apply zB <;> intro hb <;> (try simp [-zd] at hb) <;> try (exfalso;omega))))
 ·refine Le.of_eq (congrArg (AV.int _) ?_)
  exact (qfb (fun v:Ch=>v.name == s) l ch0 i (by omega) (beq_iff_eq.2 hb) hi.2).symm
 ·((conv=>whnf);refine ⟨i+1,⟨by omega,qaf hi.2 (beq_eq_false_iff_ne.2 hb)⟩,⟨qa,qa⟩,⟨qa,qa⟩,?_⟩;(first|omega|(dsimp only;omega)|skip))
 ·refine Le.of_eq (congrArg (AV.int _) ?_)
  exact (qfc _ l ch0 (fun j hj=>hi.2 j (by omega))).symm
theorem jpx (l:List (List UInt8)) (hl:l.length≤1000000) (s:List UInt8):Con Tryz.prog 112 [strs l,.str s] (iv (Go.St.idx (· == s) l)):=by
 refine zK {} 300 Tryz.func112 (fun c0 rdb=>?_)
 ((conv=>whnf);refine qm (fun _=>rfl) 300 1 (fun i:Nat=>[(8,iv i)]) (fun _=>[]) (fun i=>i≤l.length∧∀ j,j<i→(l.getD j [] == s)=false) (fun i=>l.length - i) (0) (⟨by omega,fun j hj=>absurd hj (zh j)⟩) qa qa (fun _=>rfl) (by kernel_rfl) ?_;(conv=>whnf))
 intro i hi
 (repeat' ((conv=>whnf);first|refine Ob.auto ?_|(apply zB <;> intro hb <;> (try simp [-zd] at hb) <;> try (exfalso;omega))))
 ·refine Le.of_eq (congrArg (AV.int _) ?_)
  exact (qfb (· == s) l [] i (by omega) (beq_iff_eq.2 hb.symm) hi.2).symm
 ·((conv=>whnf);refine ⟨i+1,⟨by omega,qaf hi.2 (beq_eq_false_iff_ne.2 (Ne.symm hb))⟩,⟨qa,qa⟩,⟨qa,qa⟩,?_⟩;(first|omega|(dsimp only;omega)|skip))
 ·refine Le.of_eq (congrArg (AV.int _) ?_)
  exact (qfc _ l [] (fun j hj=>hi.2 j (by omega))).symm
def varV (m:Md) (p:Int) (s:Stt) (n:List UInt8):Int × Bool:=if varN m p n<0 then (0,false) else (s.vars.getD (varN m p n).toNat 0,true)
def lenV (m:Md) (s:Stt) (n:List UInt8):Int × Bool:=if Go.St.idx (fun c:Ch=>c.name == n) m.chans<0 then (0,false) else ((s.chans.getD (Go.St.idx (fun c:Ch=>c.name == n) m.chans).toNat []).length,true)
theorem jpy (m:Md) (hm:MOk m) (p:Int) (s:Stt) (hs:SOk m s) (n:List UInt8):Con Tryz.prog 109 [.str n,.rptr [iv p],.rptr m.cells,.rptr s.cells] (qkq (varV m p s n)):=by
 have hg:=hm.glob
 have hsz:=hm.sz
 have hvl:=hs.vl
 have hcl:=hs.cl
 have hvn:=qvv hm p n
 by_cases hp:0≤p∧p<m.procs.length
 ·have hq:=hm.procs _ (qk m.procs p.toNat pr0 (by omega))
  have hq2:=hm.psz _ (qk m.procs p.toNat pr0 (by omega))
  have hv:varN m p n=_:=zb hp
  have hix:=qjb (· == n) (m.procs.getD p.toNat pr0).names
  have hqv:=fun (h:0≤Go.St.idx (· == n) (m.procs.getD p.toNat pr0).names)=>hq.2 _ (qk (m.procs.getD p.toNat pr0).vars (Go.St.idx (· == n) (m.procs.getD p.toNat pr0).names).toNat 0 (by omega))
  refine zK {} 300 Tryz.func109 (fun c0 rdb=>?_)
  (repeat' ((conv=>whnf);first|refine zO ?_|refine Ob.auto ?_|refine zC 300 (jpx (m.procs.getD p.toNat pr0).names (by omega) n) ?_|(refine zP 300 ?_)|(apply zB <;> intro hb <;> (try simp [-zd] at hb) <;> try (exfalso;omega))))
  ·have:=hqv (by omega)
   rw [za (by omega)] at hv
   refine Le.of_eq ?_
   rw [varV,za (by omega),hv];rfl
  ·rw [zb (by omega)] at hv
   refine Le.of_eq ?_
   rw [varV,zb (by omega)];rfl
 ·have hv:varN m p n=_:=za hp
  refine zK {} 300 Tryz.func109 (fun c0 rdb=>?_)
  (repeat' ((conv=>whnf);first|refine Ob.auto ?_|(refine qi (fun _=>rfl) 300 (jpv m.vars m.globals.toNat (by omega) (by omega) n) qc (by (repeat' (first|exact trivial|exact Le.refl _|(refine And.intro ?_ ?_))) <;> fail) (by rfl) (by kernel_rfl) ?_)|(apply zB <;> intro hb <;> (try simp [-zd] at hb) <;> try (exfalso;omega))))
  ·refine Le.of_eq ?_
   rw [varV,za (by omega),hv];rfl
  ·refine Le.of_eq ?_
   rw [varV,zb (by omega)];rfl
theorem jpz (m:Md) (hm:MOk m) (s:Stt) (hs:SOk m s) (n:List UInt8):Con Tryz.prog 113 [.str n,.rptr m.cells,.rptr s.cells] (qkq (lenV m s n)):=by
 have hsz:=hm.sz
 have hcl:=hs.cl
 have hi:=qjb (fun c:Ch=>c.name == n) m.chans
 refine zK {} 300 Tryz.func113 (fun c0 rdb=>?_)
 (repeat' ((conv=>whnf);first|refine Ob.auto ?_|(refine qi (fun _=>rfl) 300 (jpw m.chans (by omega) n) qc (by (repeat' (first|exact trivial|exact Le.refl _|(refine And.intro ?_ ?_))) <;> fail) (by rfl) (by kernel_rfl) ?_)|(apply zB <;> intro hb <;> (try simp [-zd] at hb) <;> try (exfalso;omega))))
 ·refine Le.of_eq ?_
  rw [lenV,za (by omega)];rfl
 ·refine Le.of_eq ?_
  rw [lenV,zb (by omega)];rfl
def jcn (m:Md) (p:Int) (s:Stt):AV:=.agg [jx m.tree,.fn 109 [.rptr [iv p],.rptr m.cells,.rptr s.cells],.fn 113 [.rptr m.cells,.rptr s.cells]]
theorem qfd (m:Md) (p:Int) (s:Stt):Con Tryz.prog 79 [m.av,iv p,s.av] (jcn m p s):=by
 refine zK {} 300 Tryz.func79 (fun c0 rdb=>?_)
 (repeat' ((conv=>whnf);first|refine Ob.auto ?_|fail))
 exact Le.of_eq (by kernel_rfl)
theorem qfe (m:Md) (hm:MOk m) (p:Int) (s:Stt) (hs:SOk m s):∀ (n:Nat) (k:Int),0≤k→k<m.tree.length→m.tree.length - k.toNat≤n→Con Tryz.prog 80 [jcn m p s,iv k] (qkq (valN m p s n k)):=by
 intro n
 induction n with
 | zero=>intro k h0 h1 h2;omega
 | succ n ih=>
  intro k h0 h1 h2
  have hnd:=hm.tree k.toNat (by omega)
  have h17:=hnd.num
  have h18:=hnd.word
  have h20:=hnd.un
  have h22:=hnd.bin
  have hsz:=hm.sz
  have hvb:=jce hm hs p n
  have hvl:=hs.vl
  have hcl:=hs.cl
  have hk0:(m.tree.getD k.toNat nd0).kind=20∨(m.tree.getD k.toNat nd0).kind=21∨(m.tree.getD k.toNat nd0).kind=22→0≤(m.tree.getD k.toNat nd0).kids.getD 0 0∧(m.tree.getD k.toNat nd0).kids.getD 0 0<m.tree.length∧m.tree.length - ((m.tree.getD k.toNat nd0).kids.getD 0 0).toNat≤n:=by omega
  have hk1:(m.tree.getD k.toNat nd0).kind=22→0≤(m.tree.getD k.toNat nd0).kids.getD 1 0∧(m.tree.getD k.toNat nd0).kids.getD 1 0<m.tree.length∧m.tree.length - ((m.tree.getD k.toNat nd0).kids.getD 1 0).toNat≤n:=by omega
  have hb0:=hvb ((m.tree.getD k.toNat nd0).kids.getD 0 0)
  have hb1:=hvb ((m.tree.getD k.toNat nd0).kids.getD 1 0)
  refine zK {} 600 Tryz.func80 (fun c0 rdb=>?_)
  (repeat' ((conv=>whnf);first|refine zO ?_|refine Ob.auto ?_|refine zC 600 (qmf _ _) ?_|refine zX (jpy m hm p s hs _) ?_|refine zX (jpz m hm s hs _) ?_|refine zC 600 (jcl _) ?_|refine zC 600 (jpm _ _ _ (by omega) (by omega)) ?_|refine zX (ih ((m.tree.getD k.toNat nd0).kids.getD 0 0) (hk0 (by omega)).1 (hk0 (by omega)).2.1 (hk0 (by omega)).2.2) ?_|refine zX (ih ((m.tree.getD k.toNat nd0).kids.getD 1 0) (hk1 (by omega)).1 (hk1 (by omega)).2.1 (hk1 (by omega)).2.2) ?_|(refine zP 600 ?_)|(apply zB <;> intro hb <;> (try simp [-zd] at hb) <;> try (exfalso;omega))))
  ·refine Le.of_eq ?_
   rw [valN,zb (by assumption)];rfl
  ·refine Le.of_eq ?_
   rw [valN,za (by assumption),zb (by assumption)];rfl
  ·refine Le.of_eq ?_
   rw [valN,za (by assumption),za (by assumption),zb (by assumption)];rfl
  ·refine Le.of_eq ?_
   rw [valN,za (by assumption),za (by assumption),za (by assumption),zb (by assumption)];rfl
  ·refine Le.of_eq ?_
   rw [qvw m p s n k (by assumption),hb];rfl
  ·refine Le.of_eq ?_
   rw [qvw m p s n k (by assumption),hb,zat];rfl
  ·refine Le.of_eq ?_
   rw [qvx m p s n k (by assumption),binF,za (fun h=>by rcases hb with hb|hb <;> rw [hb] at h <;> simp at h)];rfl
  ·refine Le.of_eq ?_
   rw [qvx m p s n k (by assumption),binF,zb hb];rfl
  ·refine Le.of_eq ?_
   rw [valN,za (by assumption),za (by assumption),za (by assumption),za (by assumption),za (by assumption),za (by assumption)];rfl
end Go.Proofs.YtikahnkkfkoglaaGreatDoor
end
