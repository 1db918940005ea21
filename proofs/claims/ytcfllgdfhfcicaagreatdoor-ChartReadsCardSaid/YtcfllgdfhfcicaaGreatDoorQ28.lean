/- Some texts of the library, one behind the other. -/
import Derived.Test.YtcfllgdfhfcicaaGreatDoorQ27
import Derived.Test.YtcfllgdfhfcicaaGreatDoorQ2
section
namespace Go.Proofs.YtcfllgdfhfcicaaGreatDoor
open List renaming getD_eq_getElem?_getD → zd
open Go Go.Sx Go.RowKit Go.St
set_option maxRecDepth 100000
set_option maxHeartbeats 2000000
theorem jrn (x:Int) (c:Ch):Con Tryz.prog 144 [iv x,.rptr c.cells] (.bool (!(trim x c.width == x))):=by
 refine zK {} 300 Tryz.func144 (fun c0 rdb=>?_)
 (repeat' ((conv=>whnf);first|refine Ob.auto ?_|refine zC 300 (jco _ _) ?_|fail))
 exact Le.refl _
theorem jro (l:List Int) (c:Ch) (hl:l.length≤1000000):Con Tryz.prog 167 [ints l,.fn 144 [.rptr c.cells]] (iv (idx (fun x=>!(trim x c.width == x)) l)):=by
 refine zK {} 300 Tryz.func167 (fun c0 rdb=>?_)
 ((conv=>whnf);refine qm (fun _=>rfl) 300 1 (fun i:Nat=>[(8,iv i)]) (fun _=>[]) (fun i=>i≤l.length∧∀ j,j<i→(!(trim (l.getD j 0) c.width == l.getD j 0))=false) (fun i=>l.length - i) (0) (⟨by omega,fun j hj=>absurd hj (Nat.not_lt_zero j)⟩) qa qa (fun _=>rfl) (by kernel_rfl) ?_;(conv=>whnf))
 intro i hi
 (repeat' ((conv=>whnf);first|refine Ob.auto ?_|refine zC 300 (jrn _ c) ?_|(apply zB <;> intro hb <;> (try simp [-zd] at hb) <;> try (exfalso;omega))))
 ·refine Le.of_eq (congrArg (AV.int _) ?_)
  exact (qed _ l 0 i (by omega) (by simp [-zd,hb]) hi.2).symm
 ·((conv=>whnf);refine ⟨i+1,⟨by omega,qaw hi.2 (by simp [-zd,hb])⟩,⟨qa,qa⟩,⟨qa,qa⟩,?_⟩;(first|omega|(dsimp only;omega)|skip))
 ·refine Le.of_eq (congrArg (AV.int _) ?_)
  exact (qer _ l 0 (fun j hj=>hi.2 j (by omega))).symm
theorem jrp {α:Type} (q:α→Bool) (l:List α):decide (0≤Go.St.idx q l)=l.any q:=by
 unfold Go.St.idx
 cases h:l.findIdx? q with
 | none=>
  rw [List.findIdx?_eq_none_iff] at h
  have:l.any q=false:=by rw [Bool.eq_false_iff];intro h';rw [List.any_eq_true] at h';obtain ⟨x,hx,hq⟩:=h';rw [h x hx] at hq;cases hq
  rw [this];rfl
 | some i=>
  rw [List.findIdx?_eq_some_iff_getElem] at h
  obtain ⟨h1,h2,_⟩:=h
  have:l.any q=true:=by rw [List.any_eq_true];exact ⟨_,List.getElem_mem h1,h2⟩
  rw [this];exact decide_eq_true (by simp)
theorem jrq (l:List Int) (c:Ch) (hl:l.length≤1000000):Con Tryz.prog 145 [ints l,.fn 144 [.rptr c.cells]] (.bool (l.any fun x=>!(trim x c.width == x))):=by
 refine zK {} 300 Tryz.func145 (fun c0 rdb=>?_)
 (repeat' ((conv=>whnf);first|refine Ob.auto ?_|refine zC 300 (jro l c hl) ?_|fail))
 refine Le.of_eq (congrArg AV.bool ?_)
 exact jrp _ l
theorem qhp (m:Md) (s:Stt) (hs:SSz s):Con Tryz.prog 117 [m.av,s.av] (.bool (qq m s)):=by
 have ha:=hs.a
 have hv:=hs.v
 have hc:=hs.c
 refine zK {} 600 Tryz.func117 (fun c0 rdb=>?_)
 (repeat' ((conv=>whnf);first|refine Ob.auto ?_|(apply zB <;> intro hb <;> (try simp [-zd] at hb) <;> try (exfalso;omega))))
 ·refine Le.of_eq (congrArg AV.bool ?_)
  exact (jae (by unfold qpy;omega)).symm
 have h0:s.at_.length=m.procs.length∧s.vars.length=m.vars.length∧s.chans.length=m.chans.length:=by omega
 clear hb
 ((conv=>whnf);refine qm (fun _=>rfl) 600 1 (fun i:Nat=>[(41,iv i)]) (fun _=>[]) (fun i=>i≤s.at_.length∧∀ j,j<i→qpz m s j) (fun i=>s.at_.length - i) (0) (⟨by omega,fun j hj=>absurd hj (Nat.not_lt_zero j)⟩) qa qa (fun _=>rfl) (by kernel_rfl) ?_;(conv=>whnf))
 intro i hi
 (repeat' ((conv=>whnf);first|refine Ob.auto ?_|(apply zB <;> intro hb <;> (try simp [-zd] at hb) <;> try (exfalso;omega))))
 ·refine Le.of_eq (congrArg AV.bool ?_)
  exact (jnc i (by omega) (by omega)).symm
 ·((conv=>whnf);refine ⟨i+1,⟨by omega,qaw hi.2 hb⟩,⟨qa,qa⟩,⟨qa,qa⟩,?_⟩;(first|omega|(dsimp only;omega)|skip))
 obtain rfl:i=s.at_.length:=by omega
 have hA:=hi.2
 clear hi hb
 ((conv=>whnf);refine qm (fun _=>rfl) 600 2 (fun i:Nat=>[(62,iv i)]) (fun _=>[]) (fun i=>i≤s.vars.length∧∀ j,j<i→qmp m s j) (fun i=>s.vars.length - i) (0) (⟨by omega,fun j hj=>absurd hj (Nat.not_lt_zero j)⟩) qa qa (fun _=>rfl) (by kernel_rfl) ?_;(conv=>whnf))
 intro i hi
 (repeat' ((conv=>whnf);first|refine Ob.auto ?_|refine zC 600 (jco _ _) ?_|(apply zB <;> intro hb <;> (try simp [-zd] at hb) <;> try (exfalso;omega))))
 ·refine Le.of_eq (congrArg AV.bool ?_)
  exact (jnd i (by omega) hb).symm
 ·((conv=>whnf);refine ⟨i+1,⟨by omega,qaw hi.2 hb⟩,⟨qa,qa⟩,⟨qa,qa⟩,?_⟩;(first|omega|(dsimp only;omega)|skip))
 obtain rfl:i=s.vars.length:=by omega
 have hV:=hi.2
 clear hi hb
 ((conv=>whnf);refine qm (fun _=>rfl) 600 3 (fun i:Nat=>[(80,iv i)]) (fun _=>[]) (fun i=>i≤s.chans.length∧∀ j,j<i→qji m s j∧∀ k,k<(s.chans.getD j []).length→qjj m s j k) (fun i=>s.chans.length - i) (0) (⟨by omega,fun j hj=>absurd hj (Nat.not_lt_zero j)⟩) qa qa (fun _=>rfl) (by kernel_rfl) ?_;(conv=>whnf))
 intro i hi
 have hlc:i<s.chans.length→_:=fun h=>hs.l _ (qj s.chans i [] h)
 (repeat' ((conv=>whnf);first|refine Ob.auto ?_|refine zF 600 (fun hg=>jrq (s.chans.getD i []) (m.chans.getD i ch0) (hlc (by omega))) ?_|(apply zB <;> intro hb <;> (try simp [-zd] at hb) <;> try (exfalso;omega))))
 ·refine Le.of_eq (congrArg AV.bool ?_)
  rcases hb with hb|⟨x,hx,hb⟩
  ·exact (jne i (by omega) (by unfold qji;omega)).symm
  ·obtain ⟨k,hk,hx⟩:=List.mem_iff_getElem.1 hx
   refine (jnf i k (by omega) hk ?_).symm
   have:(s.chans.getD i []).getD k 0=x:=by rw [zd,List.getElem?_eq_getElem hk];exact hx
   unfold qjj
   rw [this];exact hb
 ·((conv=>whnf);refine ⟨i+1,⟨by omega,qaw hi.2 ⟨by unfold qji;omega,fun k hk=>hb.2 _ (qj _ k 0 hk)⟩⟩,⟨qa,qa⟩,⟨qa,qa⟩,?_⟩;(first|omega|(dsimp only;omega)|skip))
 ·refine Le.of_eq (congrArg AV.bool ?_)
  by_cases hh:-1≤s.holder∧s.holder<m.procs.length
  ·rw [(qag m s).2 ⟨⟨h0.1,h0.2.1,h0.2.2,hh⟩,hA,hV,fun j hj=>hi.2 j (by omega)⟩]
   simp [hh]
  ·rw [jae (m:=m) (s:=s) (by unfold qpy;omega)]
   simp;omega
end Go.Proofs.YtcfllgdfhfcicaaGreatDoor
end
section
namespace Go.Proofs.YtcfllgdfhfcicaaGreatDoor
open Go Go.Sx Go.RowKit Go.St
set_option maxRecDepth 100000
set_option maxHeartbeats 2000000

end Go.Proofs.YtcfllgdfhfcicaaGreatDoor
end
section
namespace Go.Proofs.YtcfllgdfhfcicaaGreatDoor
open List renaming getD_eq_getElem?_getD → zd
open Go Go.Sx Go.RowKit Go.St
set_option maxRecDepth 100000
set_option maxHeartbeats 2000000
theorem jrr (v:Vr) (s:List UInt8):Con Tryz.prog 179 [.agg v.cells,.rptr [.str s]] (.bool (v.name == s)):=by
 refine zK {} 300 Tryz.func179 (fun c0 rdb=>?_)
 (repeat' ((conv=>whnf);first|refine Ob.auto ?_|fail))
 exact Le.refl _
theorem jrs (v:Ch) (s:List UInt8):Con Tryz.prog 183 [.agg v.cells,.rptr [.str s]] (.bool (v.name == s)):=by
 refine zK {} 300 Tryz.func183 (fun c0 rdb=>?_)
 (repeat' ((conv=>whnf);first|refine Ob.auto ?_|fail))
 exact Le.refl _
theorem jrt (l:List Vr) (n:Nat) (hn:n≤l.length) (hl:n≤1000000) (s:List UInt8):Con Tryz.prog 180 [.slc 3 n (encL Vr.cells vr0 l),.fn 179 [.rptr [.str s]]] (iv (Go.St.idx (fun v:Vr=>v.name == s) (l.take n))):=by
 have htk:∀ j:Nat,j<n→(l.take n).getD j vr0=l.getD j vr0:=fun j hj=>by
  rw [zd,List.getElem?_take,if_pos hj,← zd]
 have hln:(l.take n).length=n:=by rw [List.length_take];omega
 refine zK {} 300 Tryz.func180 (fun c0 rdb=>?_)
 ((conv=>whnf);refine qm (fun _=>rfl) 300 1 (fun i:Nat=>[(8,iv i)]) (fun _=>[]) (fun i=>i≤n∧∀ j,j<i→((l.getD j vr0).name == s)=false) (fun i=>n - i) (0) (⟨by omega,fun j hj=>absurd hj (Nat.not_lt_zero j)⟩) qa qa (fun _=>rfl) (by kernel_rfl) ?_;(conv=>whnf))
 intro i hi
 (repeat' ((conv=>whnf);first|refine Ob.auto ?_|refine zC 300 (jrr _ s) ?_|(apply zB <;> intro hb <;> (try simp [-zd] at hb) <;> try (exfalso;omega))))
 ·refine Le.of_eq (congrArg (AV.int _) ?_)
  exact (qed _ (l.take n) vr0 i (by omega) (by rw [htk i (by omega)];exact beq_iff_eq.2 hb) (fun j hj=>by rw [htk j (by omega)];exact hi.2 j hj)).symm
 ·((conv=>whnf);refine ⟨i+1,⟨by omega,qaw hi.2 (beq_eq_false_iff_ne.2 hb)⟩,⟨qa,qa⟩,⟨qa,qa⟩,?_⟩;(first|omega|(dsimp only;omega)|skip))
 ·refine Le.of_eq (congrArg (AV.int _) ?_)
  exact (qer _ (l.take n) vr0 (fun j hj=>by rw [htk j (by omega)];exact hi.2 j (by omega))).symm
theorem jru (l:List Ch) (hl:l.length≤1000000) (s:List UInt8):Con Tryz.prog 184 [slcL Ch.cells ch0 5 l,.fn 183 [.rptr [.str s]]] (iv (Go.St.idx (fun v:Ch=>v.name == s) l)):=by
 refine zK {} 300 Tryz.func184 (fun c0 rdb=>?_)
 ((conv=>whnf);refine qm (fun _=>rfl) 300 1 (fun i:Nat=>[(8,iv i)]) (fun _=>[]) (fun i=>i≤l.length∧∀ j,j<i→((l.getD j ch0).name == s)=false) (fun i=>l.length - i) (0) (⟨by omega,fun j hj=>absurd hj (Nat.not_lt_zero j)⟩) qa qa (fun _=>rfl) (by kernel_rfl) ?_;(conv=>whnf))
 intro i hi
 (repeat' ((conv=>whnf);first|refine Ob.auto ?_|refine zC 300 (jrs _ s) ?_|(apply zB <;> intro hb <;> (try simp [-zd] at hb) <;> try (exfalso;omega))))
 ·refine Le.of_eq (congrArg (AV.int _) ?_)
  exact (qed (fun v:Ch=>v.name == s) l ch0 i (by omega) (beq_iff_eq.2 hb) hi.2).symm
 ·((conv=>whnf);refine ⟨i+1,⟨by omega,qaw hi.2 (beq_eq_false_iff_ne.2 hb)⟩,⟨qa,qa⟩,⟨qa,qa⟩,?_⟩;(first|omega|(dsimp only;omega)|skip))
 ·refine Le.of_eq (congrArg (AV.int _) ?_)
  exact (qer _ l ch0 (fun j hj=>hi.2 j (by omega))).symm
theorem jrv (l:List (List UInt8)) (hl:l.length≤1000000) (s:List UInt8):Con Tryz.prog 181 [strs l,.str s] (iv (Go.St.idx (· == s) l)):=by
 refine zK {} 300 Tryz.func181 (fun c0 rdb=>?_)
 ((conv=>whnf);refine qm (fun _=>rfl) 300 1 (fun i:Nat=>[(8,iv i)]) (fun _=>[]) (fun i=>i≤l.length∧∀ j,j<i→(l.getD j [] == s)=false) (fun i=>l.length - i) (0) (⟨by omega,fun j hj=>absurd hj (Nat.not_lt_zero j)⟩) qa qa (fun _=>rfl) (by kernel_rfl) ?_;(conv=>whnf))
 intro i hi
 (repeat' ((conv=>whnf);first|refine Ob.auto ?_|(apply zB <;> intro hb <;> (try simp [-zd] at hb) <;> try (exfalso;omega))))
 ·refine Le.of_eq (congrArg (AV.int _) ?_)
  exact (qed (· == s) l [] i (by omega) (beq_iff_eq.2 hb.symm) hi.2).symm
 ·((conv=>whnf);refine ⟨i+1,⟨by omega,qaw hi.2 (beq_eq_false_iff_ne.2 (Ne.symm hb))⟩,⟨qa,qa⟩,⟨qa,qa⟩,?_⟩;(first|omega|(dsimp only;omega)|skip))
 ·refine Le.of_eq (congrArg (AV.int _) ?_)
  exact (qer _ l [] (fun j hj=>hi.2 j (by omega))).symm
def varV (m:Md) (p:Int) (s:Stt) (n:List UInt8):Int × Bool:=if varN m p n<0 then (0,false) else (s.vars.getD (varN m p n).toNat 0,true)
def lenV (m:Md) (s:Stt) (n:List UInt8):Int × Bool:=if Go.St.idx (fun c:Ch=>c.name == n) m.chans<0 then (0,false) else ((s.chans.getD (Go.St.idx (fun c:Ch=>c.name == n) m.chans).toNat []).length,true)
theorem jrw (m:Md) (hm:MOk m) (p:Int) (s:Stt) (hs:SOk m s) (n:List UInt8):Con Tryz.prog 178 [.str n,.rptr [iv p],.rptr m.cells,.rptr s.cells] (qkv (varV m p s n)):=by
 have hg:=hm.glob
 have hsz:=hm.sz
 have hvl:=hs.vl
 have hcl:=hs.cl
 have hvn:=jab hm p n
 by_cases hp:0≤p∧p<m.procs.length
 ·have hq:=hm.procs _ (qj m.procs p.toNat pr0 (by omega))
  have hq2:=hm.psz _ (qj m.procs p.toNat pr0 (by omega))
  have hv:varN m p n=_:=if_pos hp
  have hix:=qee (· == n) (m.procs.getD p.toNat pr0).names
  have hqv:=fun (h:0≤Go.St.idx (· == n) (m.procs.getD p.toNat pr0).names)=>hq.2 _ (qj (m.procs.getD p.toNat pr0).vars (Go.St.idx (· == n) (m.procs.getD p.toNat pr0).names).toNat 0 (by omega))
  refine zK {} 300 Tryz.func178 (fun c0 rdb=>?_)
  (repeat' ((conv=>whnf);first|refine zO ?_|refine Ob.auto ?_|refine zC 300 (jrv (m.procs.getD p.toNat pr0).names (by omega) n) ?_|(refine zP 300 ?_)|(apply zB <;> intro hb <;> (try simp [-zd] at hb) <;> try (exfalso;omega))))
  ·have:=hqv (by omega)
   rw [if_neg (by omega)] at hv
   refine Le.of_eq ?_
   rw [varV,if_neg (by omega),hv];rfl
  ·rw [if_pos (by omega)] at hv
   refine Le.of_eq ?_
   rw [varV,if_pos (by omega)];rfl
 ·have hv:varN m p n=_:=if_neg hp
  refine zK {} 300 Tryz.func178 (fun c0 rdb=>?_)
  (repeat' ((conv=>whnf);first|refine Ob.auto ?_|refine zE 300 (jrt m.vars m.globals.toNat (by omega) (by omega) n) ?_|(apply zB <;> intro hb <;> (try simp [-zd] at hb) <;> try (exfalso;omega))))
  ·refine Le.of_eq ?_
   rw [varV,if_neg (by omega),hv];rfl
  ·refine Le.of_eq ?_
   rw [varV,if_pos (by omega)];rfl
theorem jrx (m:Md) (hm:MOk m) (s:Stt) (hs:SOk m s) (n:List UInt8):Con Tryz.prog 182 [.str n,.rptr m.cells,.rptr s.cells] (qkv (lenV m s n)):=by
 have hsz:=hm.sz
 have hcl:=hs.cl
 have hi:=qee (fun c:Ch=>c.name == n) m.chans
 refine zK {} 300 Tryz.func182 (fun c0 rdb=>?_)
 (repeat' ((conv=>whnf);first|refine Ob.auto ?_|refine zE 300 (jru m.chans (by omega) n) ?_|(apply zB <;> intro hb <;> (try simp [-zd] at hb) <;> try (exfalso;omega))))
 ·refine Le.of_eq ?_
  rw [lenV,if_neg (by omega)];rfl
 ·refine Le.of_eq ?_
  rw [lenV,if_pos (by omega)];rfl
def jdx (m:Md) (p:Int) (s:Stt):AV:=.agg [jl m.tree,.fn 178 [.rptr [iv p],.rptr m.cells,.rptr s.cells],.fn 182 [.rptr m.cells,.rptr s.cells]]
theorem jry (m:Md) (p:Int) (s:Stt):Con Tryz.prog 169 [m.av,iv p,s.av] (jdx m p s):=by
 refine zK {} 300 Tryz.func169 (fun c0 rdb=>?_)
 (repeat' ((conv=>whnf);first|refine Ob.auto ?_|fail))
 exact Le.of_eq (by kernel_rfl)
theorem jrz (m:Md) (hm:MOk m) (p:Int) (s:Stt) (hs:SOk m s):∀ (n:Nat) (k:Int),0≤k→k<m.tree.length→m.tree.length - k.toNat≤n→Con Tryz.prog 170 [jdx m p s,iv k] (qkv (valN m p s n k)):=by
 intro n
 induction n with
 | zero=>intro k h0 h1 h2;omega
 | succ n ih=>
  intro k h0 h1 h2
  have hnd:=hm.tree k.toNat (by omega)
  have h17:=hnd.num
  have h18:=hnd.word
  have h20:=hnd.un
  have h22:=hnd.bin
  have hsz:=hm.sz
  have hvb:=jnb hm hs p n
  have hvl:=hs.vl
  have hcl:=hs.cl
  have hk0:(m.tree.getD k.toNat nd0).kind=20∨(m.tree.getD k.toNat nd0).kind=21∨(m.tree.getD k.toNat nd0).kind=22→0≤(m.tree.getD k.toNat nd0).kids.getD 0 0∧(m.tree.getD k.toNat nd0).kids.getD 0 0<m.tree.length∧m.tree.length - ((m.tree.getD k.toNat nd0).kids.getD 0 0).toNat≤n:=by omega
  have hk1:(m.tree.getD k.toNat nd0).kind=22→0≤(m.tree.getD k.toNat nd0).kids.getD 1 0∧(m.tree.getD k.toNat nd0).kids.getD 1 0<m.tree.length∧m.tree.length - ((m.tree.getD k.toNat nd0).kids.getD 1 0).toNat≤n:=by omega
  have hb0:=hvb ((m.tree.getD k.toNat nd0).kids.getD 0 0)
  have hb1:=hvb ((m.tree.getD k.toNat nd0).kids.getD 1 0)
  refine zK {} 600 Tryz.func170 (fun c0 rdb=>?_)
  (repeat' ((conv=>whnf);first|refine zO ?_|refine Ob.auto ?_|refine zC 600 (qlf _ _) ?_|refine zX (jrw m hm p s hs _) ?_|refine zX (jrx m hm s hs _) ?_|refine zC 600 (jcn _) ?_|refine zC 600 (jqj _ _ _ (by omega) (by omega)) ?_|refine zX (ih ((m.tree.getD k.toNat nd0).kids.getD 0 0) (hk0 (by omega)).1 (hk0 (by omega)).2.1 (hk0 (by omega)).2.2) ?_|refine zX (ih ((m.tree.getD k.toNat nd0).kids.getD 1 0) (hk1 (by omega)).1 (hk1 (by omega)).2.1 (hk1 (by omega)).2.2) ?_|(refine zP 600 ?_)|(apply zB <;> intro hb <;> (try simp [-zd] at hb) <;> try (exfalso;omega))))
  ·refine Le.of_eq ?_
   rw [valN,if_pos (by assumption)];rfl
  ·refine Le.of_eq ?_
   rw [valN,if_neg (by assumption),if_pos (by assumption)];rfl
  ·refine Le.of_eq ?_
   rw [valN,if_neg (by assumption),if_neg (by assumption),if_pos (by assumption)];rfl
  ·refine Le.of_eq ?_
   rw [valN,if_neg (by assumption),if_neg (by assumption),if_neg (by assumption),if_pos (by assumption)];rfl
  ·refine Le.of_eq ?_
   rw [jac m p s n k (by assumption),hb];rfl
  ·refine Le.of_eq ?_
   rw [jac m p s n k (by assumption),hb,Bool.true_and];rfl
  ·refine Le.of_eq ?_
   rw [jad m p s n k (by assumption),binF,if_neg (fun h=>by rcases hb with hb|hb <;> rw [hb] at h <;> simp at h)];rfl
  ·refine Le.of_eq ?_
   rw [jad m p s n k (by assumption),binF,if_pos hb];rfl
  ·refine Le.of_eq ?_
   rw [valN,if_neg (by assumption),if_neg (by assumption),if_neg (by assumption),if_neg (by assumption),if_neg (by assumption),if_neg (by assumption)];rfl
theorem jdy {m:Md} {s:Stt} (hm:MOk m) (h:qq m s=true):SOk m s:=by
 obtain ⟨h0,hA,hV,hC⟩:=(qag m s).1 h
 refine ⟨h0.2.1,h0.2.2.1,fun v hv=>?_,fun c hc=>?_⟩
 ·obtain ⟨i,hi,rfl⟩:=List.mem_iff_getElem.1 hv
  have h1:=hV i hi
  have h2:=qpx (s.vars.getD i 0) (m.vars.getD i vr0).width
  unfold qmp at h1
  rw [h1] at h2
  rw [zd,List.getElem?_eq_getElem hi] at h2
  simp only [Option.getD_some] at h2
  omega
 ·obtain ⟨i,hi,rfl⟩:=List.mem_iff_getElem.1 hc
  have h1:=(hC i hi).1
  have h2:=hm.chan _ (qj m.chans i ch0 (by omega))
  unfold qji at h1
  rw [zd,List.getElem?_eq_getElem hi] at h1
  simp only [Option.getD_some] at h1
  omega
def sval (m:Md) (p:Int) (s:Stt) (k:Int):Int × Bool:=if 0≤k∧k<m.tree.length∧qq m s=true then val m p s k else (0,false)
theorem qvw (m:Md) (hm:MOk m) (p:Int) (s:Stt) (hs:SSz s) (k:Int):Con Tryz.prog 150 [m.av,iv p,s.av,iv k] (qkv (sval m p s k)):=by
 have hsz:=hm.sz
 by_cases hf:0≤k∧k<m.tree.length∧qq m s=true
 ·have hso:=jdy hm hf.2.2
  refine zK {} 300 Tryz.func150 (fun c0 rdb=>?_)
  (repeat' ((conv=>whnf);first|refine Ob.auto ?_|refine zG 300 (fun hg=>qhp m s hs) ?_|refine zC 300 (jry m p s) ?_|refine zC 300 (jrz m hm p s hso m.tree.length k (by omega) (by omega) (by omega)) ?_|(apply zB <;> intro hb <;> (try simp [-zd] at hb) <;> try (exfalso;omega))))
  ·exfalso;rcases hb with hb|hb
   ·omega
   ·rw [hf.2.2] at hb;cases hb
  ·refine Le.of_eq ?_
   rw [sval,if_pos hf];rfl
 ·refine zK {} 300 Tryz.func150 (fun c0 rdb=>?_)
  (repeat' ((conv=>whnf);first|refine Ob.auto ?_|refine zG 300 (fun hg=>qhp m s hs) ?_|(apply zB <;> intro hb <;> (try simp [-zd] at hb) <;> try (exfalso;omega))))
  ·refine Le.of_eq ?_
   rw [sval,if_neg hf];rfl
  ·exact absurd ⟨hb.1.1,hb.1.2,hb.2⟩ hf
end Go.Proofs.YtcfllgdfhfcicaaGreatDoor
end
