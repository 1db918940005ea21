/- Some texts of the library, one behind the other. -/
import Derived.Test.YtcfllgdfhfcicaaGreatDoorQ27
import Derived.Test.YtcfllgdfhfcicaaGreatDoorQ26
import Derived.Test.YtcfllgdfhfcicaaGreatDoorQ19
import Derived.Test.YtcfllgdfhfcicaaGreatDoorQ2
set_option linter.unusedSimpArgs false
set_option linter.unusedVariables false
section
namespace Go.Proofs.YtcfllgdfhfcicaaGreatDoor
open List renaming getD_eq_getElem?_getD → zd
open Go Go.Sx Go.RowKit Go.St
set_option maxRecDepth 100000
set_option maxHeartbeats 2000000
theorem jtu (v:Vr) (s:List UInt8):Con Tryz.prog 179 [.agg v.cells,.rptr [.str s]] (.bool (v.name == s)):=by
 refine zK {} 300 Tryz.func179 (fun c0 rdb=>?_)
 (repeat' ((conv=>whnf);first|refine Ob.auto ?_|fail))
 exact Le.refl _
theorem jtv (v:Ch) (s:List UInt8):Con Tryz.prog 183 [.agg v.cells,.rptr [.str s]] (.bool (v.name == s)):=by
 refine zK {} 300 Tryz.func183 (fun c0 rdb=>?_)
 (repeat' ((conv=>whnf);first|refine Ob.auto ?_|fail))
 exact Le.refl _
theorem jtw (l:List Vr) (n:Nat) (hn:n≤l.length) (hl:n≤1000000) (s:List UInt8):Con Tryz.prog 180 [.slc 3 n (encL Vr.cells vr0 l),.fn 179 [.rptr [.str s]]] (iv (Go.St.idx (fun v:Vr=>v.name == s) (l.take n))):=by
 have htk:∀ j:Nat,j<n→(l.take n).getD j vr0=l.getD j vr0:=fun j hj=>by
  rw [zd,zaa,zb hj,← zd]
 have hln:(l.take n).length=n:=by rw [zw];omega
 refine zK {} 300 Tryz.func180 (fun c0 rdb=>?_)
 ((conv=>whnf);refine qo (fun _=>rfl) 300 1 (fun i:Nat=>[(8,iv i)]) (fun _=>[]) (fun i=>i≤n∧∀ j,j<i→((l.getD j vr0).name == s)=false) (fun i=>n - i) (0) (⟨by omega,fun j hj=>absurd hj (zh j)⟩) qa qa (fun _=>rfl) (by kernel_rfl) ?_;(conv=>whnf))
 intro i hi
 (repeat' ((conv=>whnf);first|refine Ob.auto ?_|refine zC 300 (jtu _ s) ?_|(apply zB <;> intro hb <;> (try simp [-zd] at hb) <;> try (exfalso;omega))))
 ·refine Le.of_eq (congrArg (AV.int _) ?_)
  exact (qdt _ (l.take n) vr0 i (by omega) (by rw [htk i (by omega)];exact beq_iff_eq.2 hb) (fun j hj=>by rw [htk j (by omega)];exact hi.2 j hj)).symm
 ·((conv=>whnf);refine ⟨i+1,⟨by omega,qan hi.2 (beq_eq_false_iff_ne.2 hb)⟩,⟨qa,qa⟩,⟨qa,qa⟩,?_⟩;(first|omega|(dsimp only;omega)|skip))
 ·refine Le.of_eq (congrArg (AV.int _) ?_)
  exact (qev _ (l.take n) vr0 (fun j hj=>by rw [htk j (by omega)];exact hi.2 j (by omega))).symm
theorem jtx (l:List Ch) (hl:l.length≤1000000) (s:List UInt8):Con Tryz.prog 184 [slcL Ch.cells ch0 5 l,.fn 183 [.rptr [.str s]]] (iv (Go.St.idx (fun v:Ch=>v.name == s) l)):=by
 refine zK {} 300 Tryz.func184 (fun c0 rdb=>?_)
 ((conv=>whnf);refine qo (fun _=>rfl) 300 1 (fun i:Nat=>[(8,iv i)]) (fun _=>[]) (fun i=>i≤l.length∧∀ j,j<i→((l.getD j ch0).name == s)=false) (fun i=>l.length - i) (0) (⟨by omega,fun j hj=>absurd hj (zh j)⟩) qa qa (fun _=>rfl) (by kernel_rfl) ?_;(conv=>whnf))
 intro i hi
 (repeat' ((conv=>whnf);first|refine Ob.auto ?_|refine zC 300 (jtv _ s) ?_|(apply zB <;> intro hb <;> (try simp [-zd] at hb) <;> try (exfalso;omega))))
 ·refine Le.of_eq (congrArg (AV.int _) ?_)
  exact (qdt (fun v:Ch=>v.name == s) l ch0 i (by omega) (beq_iff_eq.2 hb) hi.2).symm
 ·((conv=>whnf);refine ⟨i+1,⟨by omega,qan hi.2 (beq_eq_false_iff_ne.2 hb)⟩,⟨qa,qa⟩,⟨qa,qa⟩,?_⟩;(first|omega|(dsimp only;omega)|skip))
 ·refine Le.of_eq (congrArg (AV.int _) ?_)
  exact (qev _ l ch0 (fun j hj=>hi.2 j (by omega))).symm
theorem jty (l:List (List UInt8)) (hl:l.length≤1000000) (s:List UInt8):Con Tryz.prog 181 [strs l,.str s] (iv (Go.St.idx (· == s) l)):=by
 refine zK {} 300 Tryz.func181 (fun c0 rdb=>?_)
 ((conv=>whnf);refine qo (fun _=>rfl) 300 1 (fun i:Nat=>[(8,iv i)]) (fun _=>[]) (fun i=>i≤l.length∧∀ j,j<i→(l.getD j [] == s)=false) (fun i=>l.length - i) (0) (⟨by omega,fun j hj=>absurd hj (zh j)⟩) qa qa (fun _=>rfl) (by kernel_rfl) ?_;(conv=>whnf))
 intro i hi
 (repeat' ((conv=>whnf);first|refine Ob.auto ?_|(apply zB <;> intro hb <;> (try simp [-zd] at hb) <;> try (exfalso;omega))))
 ·refine Le.of_eq (congrArg (AV.int _) ?_)
  exact (qdt (· == s) l [] i (by omega) (beq_iff_eq.2 hb.symm) hi.2).symm
 ·((conv=>whnf);refine ⟨i+1,⟨by omega,qan hi.2 (beq_eq_false_iff_ne.2 (Ne.symm hb))⟩,⟨qa,qa⟩,⟨qa,qa⟩,?_⟩;(first|omega|(dsimp only;omega)|skip))
 ·refine Le.of_eq (congrArg (AV.int _) ?_)
  exact (qev _ l [] (fun j hj=>hi.2 j (by omega))).symm
def varV (m:Md) (p:Int) (s:Stt) (n:List UInt8):Int × Bool:=if varN m p n<0 then (0,false) else (s.vars.getD (varN m p n).toNat 0,true)
def lenV (m:Md) (s:Stt) (n:List UInt8):Int × Bool:=if Go.St.idx (fun c:Ch=>c.name == n) m.chans<0 then (0,false) else ((s.chans.getD (Go.St.idx (fun c:Ch=>c.name == n) m.chans).toNat []).length,true)
theorem jtz (m:Md) (hm:MOk m) (p:Int) (s:Stt) (hs:SOk m s) (n:List UInt8):Con Tryz.prog 178 [.str n,.rptr [iv p],.rptr m.cells,.rptr s.cells] (qkj (varV m p s n)):=by
 have hg:=hm.glob
 have hsz:=hm.sz
 have hvl:=hs.vl
 have hcl:=hs.cl
 have hvn:=qvd hm p n
 by_cases hp:0≤p∧p<m.procs.length
 ·have hq:=hm.procs _ (qe m.procs p.toNat pr0 (by omega))
  have hq2:=hm.psz _ (qe m.procs p.toNat pr0 (by omega))
  have hv:varN m p n=_:=zb hp
  have hix:=qgw (· == n) (m.procs.getD p.toNat pr0).names
  have hqv:=fun (h:0≤Go.St.idx (· == n) (m.procs.getD p.toNat pr0).names)=>hq.2 _ (qe (m.procs.getD p.toNat pr0).vars (Go.St.idx (· == n) (m.procs.getD p.toNat pr0).names).toNat 0 (by omega))
  refine zK {} 300 Tryz.func178 (fun c0 rdb=>?_)
  (repeat' ((conv=>whnf);first|refine zO ?_|refine Ob.auto ?_|refine zC 300 (jty (m.procs.getD p.toNat pr0).names (by omega) n) ?_|(refine zP 300 ?_)|(apply zB <;> intro hb <;> (try simp [-zd] at hb) <;> try (exfalso;omega))))
  ·have:=hqv (by omega)
   rw [za (by omega)] at hv
   refine Le.of_eq ?_
   rw [varV,za (by omega),hv];rfl
  ·rw [zb (by omega)] at hv
   refine Le.of_eq ?_
   rw [varV,zb (by omega)];rfl
 ·have hv:varN m p n=_:=za hp
  refine zK {} 300 Tryz.func178 (fun c0 rdb=>?_)
  (repeat' ((conv=>whnf);first|refine Ob.auto ?_|refine zE 300 (jtw m.vars m.globals.toNat (by omega) (by omega) n) ?_|(apply zB <;> intro hb <;> (try simp [-zd] at hb) <;> try (exfalso;omega))))
  ·refine Le.of_eq ?_
   rw [varV,za (by omega),hv];rfl
  ·refine Le.of_eq ?_
   rw [varV,zb (by omega)];rfl
theorem jua (m:Md) (hm:MOk m) (s:Stt) (hs:SOk m s) (n:List UInt8):Con Tryz.prog 182 [.str n,.rptr m.cells,.rptr s.cells] (qkj (lenV m s n)):=by
 have hsz:=hm.sz
 have hcl:=hs.cl
 have hi:=qgw (fun c:Ch=>c.name == n) m.chans
 refine zK {} 300 Tryz.func182 (fun c0 rdb=>?_)
 (repeat' ((conv=>whnf);first|refine Ob.auto ?_|refine zE 300 (jtx m.chans (by omega) n) ?_|(apply zB <;> intro hb <;> (try simp [-zd] at hb) <;> try (exfalso;omega))))
 ·refine Le.of_eq ?_
  rw [lenV,za (by omega)];rfl
 ·refine Le.of_eq ?_
  rw [lenV,zb (by omega)];rfl
def jfn (m:Md) (p:Int) (s:Stt):AV:=.agg [js m.tree,.fn 178 [.rptr [iv p],.rptr m.cells,.rptr s.cells],.fn 182 [.rptr m.cells,.rptr s.cells]]
theorem jub (m:Md) (p:Int) (s:Stt):Con Tryz.prog 169 [m.av,iv p,s.av] (jfn m p s):=by
 refine zK {} 300 Tryz.func169 (fun c0 rdb=>?_)
 (repeat' ((conv=>whnf);first|refine Ob.auto ?_|fail))
 exact Le.of_eq (by kernel_rfl)
theorem juc (m:Md) (hm:MOk m) (p:Int) (s:Stt) (hs:SOk m s):∀ (n:Nat) (k:Int),0≤k→k<m.tree.length→m.tree.length - k.toNat≤n→Con Tryz.prog 170 [jfn m p s,iv k] (qkj (valN m p s n k)):=by
 intro n
 induction n with
 | zero=>intro k h0 h1 h2;omega
 | succ n ih=>
  intro k h0 h1 h2
  have hnd:=hm.tree k.toNat (by omega)
  have h17:=hnd.num
  have h18:=hnd.word
  have h20:=hnd.un
  have h22:=hnd.bin
  have hsz:=hm.sz
  have hvb:=jbs hm hs p n
  have hvl:=hs.vl
  have hcl:=hs.cl
  have hk0:(m.tree.getD k.toNat nd0).kind=20∨(m.tree.getD k.toNat nd0).kind=21∨(m.tree.getD k.toNat nd0).kind=22→0≤(m.tree.getD k.toNat nd0).kids.getD 0 0∧(m.tree.getD k.toNat nd0).kids.getD 0 0<m.tree.length∧m.tree.length - ((m.tree.getD k.toNat nd0).kids.getD 0 0).toNat≤n:=by omega
  have hk1:(m.tree.getD k.toNat nd0).kind=22→0≤(m.tree.getD k.toNat nd0).kids.getD 1 0∧(m.tree.getD k.toNat nd0).kids.getD 1 0<m.tree.length∧m.tree.length - ((m.tree.getD k.toNat nd0).kids.getD 1 0).toNat≤n:=by omega
  have hb0:=hvb ((m.tree.getD k.toNat nd0).kids.getD 0 0)
  have hb1:=hvb ((m.tree.getD k.toNat nd0).kids.getD 1 0)
  refine zK {} 600 Tryz.func170 (fun c0 rdb=>?_)
  (repeat' ((conv=>whnf);first|refine zO ?_|refine Ob.auto ?_|refine zC 600 (qmf _ _) ?_|refine zX (jtz m hm p s hs _) ?_|refine zX (jua m hm s hs _) ?_|refine zC 600 (jed _) ?_|refine zC 600 (jsn _ _ _ (by omega) (by omega)) ?_|refine zX (ih ((m.tree.getD k.toNat nd0).kids.getD 0 0) (hk0 (by omega)).1 (hk0 (by omega)).2.1 (hk0 (by omega)).2.2) ?_|refine zX (ih ((m.tree.getD k.toNat nd0).kids.getD 1 0) (hk1 (by omega)).1 (hk1 (by omega)).2.1 (hk1 (by omega)).2.2) ?_|(refine zP 600 ?_)|(apply zB <;> intro hb <;> (try simp [-zd] at hb) <;> try (exfalso;omega))))
  ·refine Le.of_eq ?_
   rw [valN,zb (by assumption)];rfl
  ·refine Le.of_eq ?_
   rw [valN,za (by assumption),zb (by assumption)];rfl
  ·refine Le.of_eq ?_
   rw [valN,za (by assumption),za (by assumption),zb (by assumption)];rfl
  ·refine Le.of_eq ?_
   rw [valN,za (by assumption),za (by assumption),za (by assumption),zb (by assumption)];rfl
  ·refine Le.of_eq ?_
   rw [qve m p s n k (by assumption),hb];rfl
  ·refine Le.of_eq ?_
   rw [qve m p s n k (by assumption),hb,zbq];rfl
  ·refine Le.of_eq ?_
   rw [qvf m p s n k (by assumption),binF,za (fun h=>by rcases hb with hb|hb <;> rw [hb] at h <;> simp at h)];rfl
  ·refine Le.of_eq ?_
   rw [qvf m p s n k (by assumption),binF,zb hb];rfl
  ·refine Le.of_eq ?_
   rw [valN,za (by assumption),za (by assumption),za (by assumption),za (by assumption),za (by assumption),za (by assumption)];rfl
theorem qow {m:Md} {s:Stt} (hm:MOk m) (h:qm m s=true):SOk m s:=by
 obtain ⟨h0,hA,hV,hC⟩:=(jg m s).1 h
 refine ⟨h0.2.1,h0.2.2.1,fun v hv=>?_,fun c hc=>?_⟩
 ·obtain ⟨i,hi,rfl⟩:=List.mem_iff_getElem.1 hv
  have h1:=hV i hi
  have h2:=qrh (s.vars.getD i 0) (m.vars.getD i vr0).width
  unfold qlx at h1
  rw [h1] at h2
  rw [zd,ze hi] at h2
  simp only [zae] at h2
  omega
 ·obtain ⟨i,hi,rfl⟩:=List.mem_iff_getElem.1 hc
  have h1:=(hC i hi).1
  have h2:=hm.chan _ (qe m.chans i ch0 (by omega))
  unfold qiz at h1
  rw [zd,ze hi] at h1
  simp only [zae] at h1
  omega
def sval (m:Md) (p:Int) (s:Stt) (k:Int):Int × Bool:=if 0≤k∧k<m.tree.length∧qm m s=true then val m p s k else (0,false)
theorem qxg (m:Md) (hm:MOk m) (p:Int) (s:Stt) (hs:SSz s) (k:Int):Con Tryz.prog 150 [m.av,iv p,s.av,iv k] (qkj (sval m p s k)):=by
 have hsz:=hm.sz
 by_cases hf:0≤k∧k<m.tree.length∧qm m s=true
 ·have hso:=qow hm hf.2.2
  refine zK {} 300 Tryz.func150 (fun c0 rdb=>?_)
  (repeat' ((conv=>whnf);first|refine Ob.auto ?_|refine zG 300 (fun hg=>qij m s hs) ?_|refine zC 300 (jub m p s) ?_|refine zC 300 (juc m hm p s hso m.tree.length k (by omega) (by omega) (by omega)) ?_|(apply zB <;> intro hb <;> (try simp [-zd] at hb) <;> try (exfalso;omega))))
  ·exfalso;rcases hb with hb|hb
   ·omega
   ·rw [hf.2.2] at hb;cases hb
  ·refine Le.of_eq ?_
   rw [sval,zb hf];rfl
 ·refine zK {} 300 Tryz.func150 (fun c0 rdb=>?_)
  (repeat' ((conv=>whnf);first|refine Ob.auto ?_|refine zG 300 (fun hg=>qij m s hs) ?_|(apply zB <;> intro hb <;> (try simp [-zd] at hb) <;> try (exfalso;omega))))
  ·refine Le.of_eq ?_
   rw [sval,za hf];rfl
  ·exact absurd ⟨hb.1.1,hb.1.2,hb.2⟩ hf
set_option maxHeartbeats 4000000
theorem jfo (m:Md) (hm:MOk m) (s:Stt) (hf:qm m s=true) (hs:SSz s) (p:Nat) (hp:p<m.procs.length) (e:Ed) {pl:Int} (he:EdOk m.tree.length m.vars.length m.chans.length pl e) :
  Con Tryz.prog 168 [m.av,s.av,iv p,.agg e.cells] (.bool (canB m s p e)):=by
 have hso:=qow hm hf
 have hat:s.at_.length=m.procs.length:=((jg m s).1 hf).1.1
 have hcl:=hso.cl
 have hch:=he.chn
 have hsv:e.act=1∨e.act=2∨e.act=4∨e.act=5→sval m p s e.expr=val m p s e.expr∧decide (e.expr<0)=false:=fun h=>⟨zb ⟨(he.ex h).1,(he.ex h).2,hf⟩,xx (by have:=he.ex h;omega)⟩
 have hnx:e.act=0∨e.act=3→decide (e.expr<0)=true:=fun h=>zo (by have:=he.nex h;omega)
 have hac:=he.act
 refine zK {} 300 Tryz.func168 (fun c0 rdb=>?_)
 (repeat' ((conv=>whnf);first|refine zO ?_|refine Ob.auto ?_|refine zC 300 (qxg m hm p s hs e.expr) ?_|refine zD 300 ?_|(apply zB <;> intro hb <;> (try simp [-zd] at hb) <;> try (exfalso;omega))))
 all_goals refine Le.of_eq (congrArg AV.bool ?_)
 all_goals unfold canB qlen room
 ·have h:(s.at_.getD p 0 == e.frm)=false:=by simpa [-zd] using hb
  rw [h];rfl
 ·have h:(s.at_.getD p 0 == e.frm)=true:=by simp [-zd, *]
  have h0:e.act=0:=by assumption
  rw [h,hnx (.inl h0),za (by omega),za (by omega),za (by omega),za (by omega)];rfl
 ·have h:(s.at_.getD p 0 == e.frm)=true:=by simp [-zd, *]
  have h0:e.act=3:=by assumption
  rw [h,hnx (.inr h0),za (by omega),zb h0];rfl
 ·have h0:e.act=2:=by assumption
  have h:decide (((s.chans.getD e.chn.toNat []).length:Int)<(m.chans.getD e.chn.toNat ch0).room)=false:=xx (by omega)
  rw [zb h0,h,Bool.and_false]
 ·have h:(s.at_.getD p 0 == e.frm)=true:=by simp [-zd, *]
  have h0:e.act=2:=by assumption
  obtain ⟨h1,h2⟩:=hsv (by omega)
  have h3:decide (((s.chans.getD e.chn.toNat []).length:Int)<(m.chans.getD e.chn.toNat ch0).room)=true:=zo (by omega)
  rw [h,h1,h2,zb h0,h3,Bool.and_true];rfl
 ·have h:(s.at_.getD p 0 == e.frm)=true:=by simp [-zd, *]
  have h0:e.act=4:=by assumption
  obtain ⟨h1,h2⟩:=hsv (by omega)
  rw [h,h1,h2,za (by omega),za (by omega),zb h0,za (of_decide_eq_false h2)];rfl
 ·have h:(s.at_.getD p 0 == e.frm)=true:=by simp [-zd, *]
  have h0:e.act=5:=by assumption
  obtain ⟨h1,h2⟩:=hsv (by omega)
  rw [h,h1,h2,za (by omega),za (by omega),za (by omega),zb h0,za (of_decide_eq_false h2)];rfl
 ·have h:(s.at_.getD p 0 == e.frm)=true:=by simp [-zd, *]
  have h0:e.act=1:=by omega
  obtain ⟨h1,h2⟩:=hsv (by omega)
  rw [h,h1,h2,za (by omega),za (by omega),za (by omega),za (by omega),Bool.and_true];rfl
theorem jud (m:Md) (hm:MOk m) (s:Stt) (hcl:s.chans.length=m.chans.length) (c:Nat) (hc:c<m.chans.length):Con Tryz.prog 147 [m.av,s.av,iv c] (.bool (qjm m s c)):=by
 refine zK {} 300 Tryz.func147 (fun c0 rdb=>?_)
 (repeat' ((conv=>whnf);first|refine Ob.auto ?_|fail))
 exact Le.refl _
theorem jue (m:Md) (hm:MOk m) (s:Stt) (hcl:s.chans.length=m.chans.length) (c:Nat) (hc:c<m.chans.length):Con Tryz.prog 148 [m.av,s.av,iv c] (.bool (qig m s c)):=by
 refine zK {} 300 Tryz.func148 (fun c0 rdb=>?_)
 (repeat' ((conv=>whnf);first|refine zO ?_|refine Ob.auto ?_|refine zD 300 ?_|fail))
 exact Le.refl _
theorem jfp (m:Md) (hm:MOk m) (s:Stt) (hf:qm m s=true) (hs:SSz s) (p:Nat) (hp:p<m.procs.length) {pl:Int} (he:∀ e∈edgesOf m p,EdOk m.tree.length m.vars.length m.chans.length pl e) (hn:(edgesOf m p).length≤40000) :
  Con Tryz.prog 152 [m.av,s.av,iv p] (.bool (qop m s p)):=by
 refine zK {} 300 Tryz.func152 (fun c0 rdb=>?_)
 (repeat' ((conv=>whnf);first|refine Ob.auto ?_|fail))
 ((conv=>whnf);refine qo (fun _=>rfl) 300 1 (fun i:Nat=>[(16,iv i),(6,.bool false)]) (fun _=>[]) (fun i=>i≤(edgesOf m p).length∧∀ j,j<i→canB m s p ((edgesOf m p).getD j ed0)=false) (fun i=>(edgesOf m p).length - i) (0) (⟨zx _,fun j hj=>absurd hj (zh j)⟩) qa qa (fun _=>rfl) (by kernel_rfl) ?_;(conv=>whnf))
 intro i hi
 (repeat' ((conv=>whnf);first|refine Ob.auto ?_|(apply zB <;> intro hb <;> (try simp [-zd] at hb) <;> try (exfalso;omega))))
 ·have hil:i<(edgesOf m p).length:=by assumption
  ((conv=>whnf);refine qes (fun _=>rfl) 300 (jfo m hm s hf hs p hp ((edgesOf m p).getD i ed0) (he _ (qe _ _ _ hil))) (by rfl) leA (by kernel_rfl) ?_)
  (repeat' ((conv=>whnf);first|refine Ob.auto ?_|(apply zB <;> intro hb <;> (try simp [-zd] at hb) <;> try (exfalso;omega))))
  ·exact Le.of_eq (congrArg AV.bool (List.any_eq_true.2 ⟨_,qe _ _ _ hil,by assumption⟩).symm)
  ·((conv=>whnf);refine ⟨i+1,⟨hil,qan hi.2 (by assumption)⟩,⟨qa,qa⟩,⟨qa,qa⟩,?_⟩;(first|omega|(dsimp only;omega)|skip))
 ·have hil:(edgesOf m p).length≤i:=by assumption
  refine Le.of_eq (congrArg AV.bool ?_)
  unfold qop
  rw [Eq.comm,List.any_eq_false]
  intro e hme
  obtain ⟨j,hj,rfl⟩:=List.mem_iff_getElem.1 hme
  have:=hi.2 j (by omega)
  rw [zd,ze hj] at this
  simp only [zae] at this
  rw [this];decide
def qox (m:Md) (s:Stt) (p e:Int):Bool:=qm m s && decide (0≤p∧p<m.procs.length∧0≤e∧e<(edgesOf m p.toNat).length) && canB m s p.toNat ((edgesOf m p.toNat).getD e.toNat ed0)
theorem juf (m:Md) (hm:MOk m) (s:Stt) (hs:SSz s) (he:∀ q∈m.procs,∀ e∈q.edges,EdOk m.tree.length m.vars.length m.chans.length q.places e) (p e:Int) :
  Con Tryz.prog 146 [m.av,s.av,iv p,iv e] (.bool (qox m s p e)):=by
 refine zK {} 300 Tryz.func146 (fun c0 rdb=>?_)
 (repeat' ((conv=>whnf);first|refine Ob.auto ?_|refine zC 300 (qij m s hs) ?_|(apply zB <;> intro hb <;> (try simp [-zd] at hb) <;> try (exfalso;omega))))
 ·refine Le.of_eq (congrArg AV.bool ?_)
  have hb':¬ (qm m s=true∧0≤p∧p<m.procs.length∧0≤e∧e<(edgesOf m p.toNat).length):=fun ⟨h1,h2,h3,h4,h5⟩=>by
   have h5':e<(m.procs.getD p.toNat pr0).edges.length:=h5
   rcases hb with (((hb|hb)|hb)|hb)|hb
   ·rw [h1] at hb;cases hb
   all_goals omega
  unfold qox
  by_cases h1:qm m s=true
  ·rw [xx (fun h=>hb' ⟨h1,h⟩),Bool.and_false];rfl
  ·rw [Bool.not_eq_true] at h1
   rw [h1];rfl
 ·obtain ⟨⟨⟨⟨hf,h0⟩,h1⟩,h2⟩,h3⟩:=hb
  obtain ⟨P,rfl⟩:=xg h0
  obtain ⟨E,rfl⟩:=xg h2
  have hP:P<m.procs.length:=by omega
  have h3':(E:Int)<(edgesOf m P).length:=h3
  have hE:E<(edgesOf m P).length:=by omega
  (repeat' ((conv=>whnf);first|refine zA ?_|refine Ob.auto ?_|(refine CallY.con (jfo m hm s hf hs P hP ((edgesOf m P).getD E ed0) (he _ (qe _ _ _ hP) _ (qe _ _ _ hE))) (by rfl) leA ?_)|(refine zQ 300 ?_)|fail))
  refine Le.of_eq (congrArg AV.bool ?_)
  unfold qox
  rw [hf,zu,zu,zo ⟨by omega,by omega,by omega,by omega⟩]
  rfl
end Go.Proofs.YtcfllgdfhfcicaaGreatDoor
end
section
namespace Go.Proofs.YtcfllgdfhfcicaaGreatDoor
open Go Go.Sx Go.RowKit Go.St
set_option maxRecDepth 100000
set_option maxHeartbeats 4000000
theorem qoy (m:Md) (hM:ModOk m) (s:Stt) (hf:qm m s=true) (v:Mv):Con Tryz.prog 118 [m.av,s.av,v.av] (.bool (je m s v)):=by
 have hs:=qcs hM hf
 have hcl:=((jg m s).1 hf).1.2.2.1
 have hen:=juf m hM.ok s hs (fun q hq=>(hM.pr q hq).ed)
 obtain ⟨k,p,e,c⟩:=v
 by_cases hc:0≤c
 ·obtain ⟨c,rfl⟩:=xg hc
  refine zK {} 300 Tryz.func118 (fun c0 rdb=>?_)
  (repeat' ((conv=>whnf);first|refine Ob.auto ?_|refine zG 300 (fun hg=>hen p e) ?_|refine zC 300 (jud m hM.ok s hcl c (by omega)) ?_|refine zC 300 (jue m hM.ok s hcl c (by omega)) ?_|(apply zB <;> intro hb <;> (try simp [-List.getD_eq_getElem?_getD] at hb) <;> try (exfalso;omega))))
  all_goals refine Le.of_eq (congrArg AV.bool ?_)
  ·subst hb
   rw [Bool.eq_iff_iff];simp [je,qox,hf,and_assoc]
  all_goals (rw [Bool.eq_iff_iff];simp [je, *])
  all_goals omega
 ·refine zK {} 300 Tryz.func118 (fun c0 rdb=>?_)
  (repeat' ((conv=>whnf);first|refine Ob.auto ?_|refine zG 300 (fun hg=>hen p e) ?_|(apply zB <;> intro hb <;> (try simp [-List.getD_eq_getElem?_getD] at hb) <;> try (exfalso;omega))))
  all_goals refine Le.of_eq (congrArg AV.bool ?_)
  ·subst hb
   rw [Bool.eq_iff_iff];simp [je,qox,hf,and_assoc]
  all_goals (rw [Bool.eq_iff_iff];simp [je, *])
  all_goals omega
def jz (m:Md) (s:Stt) (i:Nat):List Mv:=(List.range i).flatMap (fun (p:Nat)=>if s.holder≠-1∧s.holder≠p then [] else qjl m s p)
def qem (m:Md) (s:Stt) (p j:Nat):List Mv:=((List.range j).filter fun i=>canB m s p ((edgesOf m p).getD i ed0)).map fun (i:Nat)=>⟨0,p,i,0⟩
def qde (m:Md) (s:Stt) (c:Nat):List Mv:=(List.range c).flatMap (qih m s)
theorem qxh (m:Md) (s:Stt) (i:Nat):jz m s (i+1)=jz m s i++(if s.holder≠-1∧s.holder≠(i:Int) then [] else qjl m s i):=by
 unfold jz
 rw [zat,List.flatMap_append];simp
theorem jft (m:Md) (s:Stt) (p j:Nat):qem m s p (j+1)=qem m s p j++(if canB m s p ((edgesOf m p).getD j ed0)=true then [⟨0,p,j,0⟩] else []):=by
 unfold qem
 rw [zat,zbo,List.map_append]
 congr 1
 by_cases h:canB m s p ((edgesOf m p).getD j ed0)=true
 ·rw [zb h,List.filter_cons,zb h];rfl
 ·rw [za h,List.filter_cons,za h];rfl
theorem qoz (m:Md) (s:Stt) (c:Nat):qde m s (c+1)=qde m s c++qih m s c:=by
 unfold qde
 rw [zat,List.flatMap_append];simp
theorem jug (m:Md) (s:Stt) (p:Nat):qem m s p (edgesOf m p).length=qjl m s p:=rfl
theorem juh (m:Md) (s:Stt) (c:Nat):(qih m s c).length≤2:=by
 unfold qih
 rw [zg]
 split <;> split <;> simp
theorem qxi (m:Md) (s:Stt):∀ c,(qde m s c).length≤2 * c
 | 0=>by simp [qde]
 | c+1=>by rw [qoz,zg];have:=qxi m s c;have:=juh m s c;omega
theorem jfu (m:Md) (s:Stt) (p j:Nat):(qem m s p j).length≤j:=by
 unfold qem
 rw [xh]
 exact xc (zag _ _) (by simp)
theorem qxj (m:Md) (hM:ModOk m) (s:Stt):∀ i,i≤m.procs.length→(jz m s i).length≤40000 * i
 | 0,_=>by simp [jz]
 | i+1,h=>by
  have h1:=qxj m hM s i (by omega)
  have h2:=(hM.psz _ (qe m.procs i pr0 (by omega))).1
  have h3:(qjl m s i).length≤(edgesOf m i).length:=jfu m s i _
  have h4:(edgesOf m i).length≤40000:=h2
  rw [qxh,zg]
  split
  ·simp;omega
  ·omega
theorem qkw {α:Type} (enc:α→List AV) (d:α) {l l':List α} (h:l=l') {ids:List Nat} {e:TypeId} {sz ep:Nat}:SoLe (.row ids e sz ep l.length (encL enc d l)) (.row ids e sz ep l'.length (encL enc d l')):=by
 subst h;exact SoLe.refl _
theorem qhg {α:Type} (enc:α→List AV) (d:α) {l l':List α} {x:α} (h:l++[x]=l') {ids:List Nat} {e:TypeId} {sz ep:Nat} {g:Nat→List AV} (hg:g 0=enc x):SoLe (.row ids e sz ep (l.length+1) (appF l.length (encL enc d l) 1 g)) (.row ids e sz ep l'.length (encL enc d l')):=by
 subst h;exact ⟨⟨rfl,rfl,rfl⟩,rfl,by rw [zg];rfl,quw hg⟩
theorem jui {α:Type} (enc:α→List AV) (d:α) {l l':List α} {x y:α} (h:l++[x,y]=l') {ids:List Nat} {e:TypeId} {sz ep:Nat} {g g':Nat→List AV} (hg:g 0=enc x) (hg':g' 0=enc y):SoLe (.row ids e sz ep (l.length+1+1) (appF (l.length+1) (appF l.length (encL enc d l) 1 g) 1 g')) (.row ids e sz ep l'.length (encL enc d l')):=by
 have h2:l++[x]++[y]=l':=by rw [← h];simp
 subst h2
 refine ⟨⟨rfl,rfl,rfl⟩,rfl,by rw [zg,zg];rfl,fun j hj=>?_⟩
 have hlen:(l++[x]).length=l.length+1:=by rw [zg];rfl
 by_cases hl:j<l.length+1
 ·have h1:=quw (d:=d) (L:=l) hg j hl
  have e1:appF (l.length+1) (appF l.length (encL enc d l) 1 g) 1 g' j=appF l.length (encL enc d l) 1 g j:=zb hl
  have e2:encL enc d (l++[x]++[y]) j=encL enc d (l++[x]) j:=by unfold encL;rw [qiw,zb (by omega)]
  rw [e1,e2];exact h1
 ·obtain rfl:j=l.length+1:=by omega
  have e1:appF (l.length+1) (appF l.length (encL enc d l) 1 g) 1 g' (l.length+1)=g' 0:=by unfold appF;rw [za (by omega),zb (by omega),xv]
  have e2:encL enc d (l++[x]++[y]) (l.length+1)=enc y:=by unfold encL;rw [qiw,za (by omega),zb hlen.symm]
  rw [e1,e2,hg'];exact LeL.refl _
theorem juj {α:Type} {l l':List α} {x y:α} (h:l++[x,y]=l') (r:Nat):Le (.own r 0 0 (l.length+1+1)) (.own r 0 0 l'.length):=by
 subst h;exact Le.of_eq (by rw [zg];rfl)
theorem qjn {α:Type} {l l':List α} {x:α} (h:l++[x]=l') (r:Nat):Le (.own r 0 0 (l.length+1)) (.own r 0 0 l'.length):=by
 subst h;exact Le.of_eq (by rw [zg];rfl)
theorem qkx {α:Type} {l l':List α} (h:l=l') (r:Nat):Le (.own r 0 0 l.length) (.own r 0 0 l'.length):=by
 subst h;exact Le.refl _
end Go.Proofs.YtcfllgdfhfcicaaGreatDoor
end
