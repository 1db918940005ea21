/- Some texts of the library, one behind the other. -/
import Derived.Test.YtikahnkkfkoglaaGreatDoorY214
import Derived.Test.YtikahnkkfkoglaaGreatDoorY25
import Derived.Test.YtikahnkkfkoglaaGreatDoorY213
import Derived.Test.YtikahnkkfkoglaaGreatDoorY212
import Derived.Test.YtikahnkkfkoglaaGreatDoorY22
set_option linter.unusedSimpArgs false
set_option linter.unusedVariables false
section
namespace Go.Proofs.YtikahnkkfkoglaaGreatDoor
open List renaming getD_eq_getElem?_getD → zd
open Go Go.Sx Go.RowKit Go.St
set_option maxRecDepth 100000
set_option maxHeartbeats 4000000
theorem qtg (m:Md) (s:Stt) (c:Nat):qep m s c=(if (m.chans.getD c ch0).lossy=true∧0<(s.chans.getD c []).length then [⟨1,0,0,c⟩] else [])++(if ((m.chans.getD c ch0).copying=true∧0<(s.chans.getD c []).length)∧((s.chans.getD c []).length:Int)<(m.chans.getD c ch0).room then [⟨2,0,0,c⟩] else []):=by
 unfold qep qkw qjg qlen room
 simp only [zr,zf,xd,Int.natCast_pos]
theorem qxb (m:Md) (hM:ModOk m) (s:Stt) (hf:fitsB m s=true):Con Tryz.prog 11 [m.av,s.av] (qox (qp m s)):=by
 have hs:=qco hM hf
 have h0:=((jn m s).1 hf).1
 have hz:=hM.sz
 have hpl:=qtf m hM s
 have hcl:=h0.2.2.1
 have hpz:=hM.psz
 have hh:=h0.2.2.2.1
 refine zK {owns:=[(5,(48,4))]} 300 Tryz.func11 (fun c0 rdb=>?_)
 ((conv=>whnf);refine qm (fun _=>rfl) 300 1 (fun i:Nat=>[(6,iv i),(5,.own 2 0 0 (qu m s i).length)]) (fun i=>[(2,.row [] 48 4 0 (qu m s i).length (encL Mv.cells {} (qu m s i)))]) (fun i=>i≤m.procs.length) (fun i=>m.procs.length - i) (0) (zv _) qa ⟨qcb (fun k hk=>absurd hk (zh k)),trivial⟩ (fun _=>rfl) (by kernel_rfl) ?_;(conv=>whnf))
 intro i hi
 have hpi:=hpl i hi
 (repeat' ((conv=>whnf);first|refine Ob.auto ?_|(apply zB <;> intro hb <;> (try simp [-zd] at hb) <;> try (exfalso;omega))))
 ·have hp1:qu m s (i+1)=qu m s i:=by rw [qpo,zb ⟨by omega,by omega⟩,xl]
  ((conv=>whnf);refine ⟨i+1,by omega,⟨⟨Le.refl _,qhc hp1.symm 2,trivial⟩,⟨qfj Mv.cells {} hp1.symm,trivial⟩⟩,⟨qa,qa⟩,?_⟩;(first|omega|(dsimp only;omega)|skip))
 ·have hp1:qu m s (i+1)=qu m s i++qhy m s i:=by rw [qpo,za (fun h=>by omega)]
  have hil:i<m.procs.length:=by assumption
  have hpe:=(hpz _ (qk m.procs i pr0 hil)).1
  have hel:(qo m i).length≤40000:=hpe
  have he0:qu m s i++qbw m s i 0=qu m s i:=xl _
  ((conv=>whnf);refine qm (fun _=>rfl) 300 2 (fun j:Nat=>[(7,iv j),(5,.own 2 0 0 (qu m s i++qbw m s i j).length)]) (fun j=>[(2,.row [] 48 4 0 (qu m s i++qbw m s i j).length (encL Mv.cells {} (qu m s i++qbw m s i j)))]) (fun j=>j≤(qo m i).length) (fun j=>(qo m i).length - j) (0) (zv _) ⟨Le.refl _,qhc he0.symm 2,trivial⟩ ⟨qfj Mv.cells {} he0.symm,trivial⟩ (fun _=>rfl) (by kernel_rfl) ?_;(conv=>whnf))
  intro j hj
  have hen:=qwz m s i j
  have hsum:(qu m s i++qbw m s i j).length≤200000:=by rw [zg];omega
  generalize hL:qu m s i++qbw m s i j=L at hsum ⊢
  (repeat' ((conv=>whnf);first|refine Ob.auto ?_|(apply zB <;> intro hb <;> (try simp [-zd] at hb) <;> try (exfalso;omega))))
  ·have hjl:j<(qo m i).length:=by assumption
   ((conv=>whnf);refine zQ 300 ?_)
   (repeat' ((conv=>whnf);first|refine zA ?_|refine Ob.auto ?_|(refine CallY.con (jeh m hM.ok s hf i hil ((qo m i).getD j ed0) (edOk hM hil hjl)) (by rfl) leA ?_)|(apply zB <;> intro hb <;> (try simp [-zd] at hb) <;> try (exfalso;omega))))
   ·have hE:L++[⟨0,i,j,0⟩]=qu m s i++qbw m s i (j+1):=by rw [qtd,zb hb,← zn,hL]
    ((conv=>whnf);refine ⟨j+1,hjl,⟨⟨Le.refl _,qmp hE 2,trivial⟩,⟨qmo Mv.cells {} hE rfl,trivial⟩⟩,⟨qa,qa⟩,?_⟩;(first|omega|(dsimp only;omega)|skip))
   ·have hE:L=qu m s i++qbw m s i (j+1):=by rw [qtd,za (by rw [hb];decide),xl,hL]
    ((conv=>whnf);refine ⟨j+1,hjl,⟨⟨Le.refl _,qhc hE 2,trivial⟩,⟨qfj Mv.cells {} hE,trivial⟩⟩,⟨qa,qa⟩,?_⟩;(first|omega|(dsimp only;omega)|skip))
  ·have hjl:(qo m i).length≤j:=by assumption
   obtain rfl:j=(qo m i).length:=by omega
   rw [jed,← hp1] at hL
   ((conv=>whnf);refine ⟨i+1,hil,⟨⟨Le.refl _,qhc hL.symm 2,trivial⟩,⟨qfj Mv.cells {} hL.symm,trivial⟩⟩,⟨qa,qa⟩,?_⟩;(first|omega|(dsimp only;omega)|skip))
 ·obtain rfl:i=m.procs.length:=by omega
  have he0:qu m s m.procs.length++qay m s 0=qu m s m.procs.length:=xl _
  ((conv=>whnf);refine qm (fun _=>rfl) 300 2 (fun c:Nat=>[(8,iv c),(5,.own 2 0 0 (qu m s m.procs.length++qay m s c).length)]) (fun c=>[(2,.row [] 48 4 0 (qu m s m.procs.length++qay m s c).length (encL Mv.cells {} (qu m s m.procs.length++qay m s c)))]) (fun c=>c≤m.chans.length∧(s.holder=-1∨c=0)) (fun c=>m.chans.length - c) (0) (⟨zv _,.inr rfl⟩) ⟨Le.refl _,qhc he0.symm 2,trivial⟩ ⟨qfj Mv.cells {} he0.symm,trivial⟩ (fun _=>rfl) (by kernel_rfl) ?_;(conv=>whnf))
  rintro c ⟨hc,hc2⟩
  have hcn:=qte m s c
  have hsum:(qu m s m.procs.length++qay m s c).length≤200000:=by rw [zg];omega
  generalize hL:qu m s m.procs.length++qay m s c=L at hsum ⊢
  (repeat' ((conv=>whnf);first|refine Ob.auto ?_|(apply zB <;> intro hb <;> (try simp [-zd] at hb) <;> try (exfalso;omega))))
  ·have hE:L++[⟨1,0,0,c⟩,⟨2,0,0,c⟩]=qu m s m.procs.length++qay m s (c+1):=by rw [qic,← zn,hL];rw [qtg,zb (by assumption),zb (by assumption)];rfl
   ((conv=>whnf);refine ⟨c+1,⟨by omega,.inl (by omega)⟩,⟨⟨Le.refl _,jef hE 2,trivial⟩,⟨jee Mv.cells {} hE rfl rfl,trivial⟩⟩,⟨qa,qa⟩,?_⟩;(first|omega|(dsimp only;omega)|skip))
  ·have hE:L++[⟨1,0,0,c⟩]=qu m s m.procs.length++qay m s (c+1):=by rw [qic,← zn,hL];rw [qtg,zb (by assumption),za (fun h=>by have:=(by assumption:(m.chans.getD c ch0).copying=true→0<(s.chans.getD c []).length→(m.chans.getD c ch0).room≤((s.chans.getD c []).length:Int)) h.1.1 h.1.2;omega)];rfl
   ((conv=>whnf);refine ⟨c+1,⟨by omega,.inl (by omega)⟩,⟨⟨Le.refl _,qmp hE 2,trivial⟩,⟨qmo Mv.cells {} hE rfl,trivial⟩⟩,⟨qa,qa⟩,?_⟩;(first|omega|(dsimp only;omega)|skip))
  ·have hE:L++[⟨2,0,0,c⟩]=qu m s m.procs.length++qay m s (c+1):=by rw [qic,← zn,hL];rw [qtg,za (fun h=>by have e:=(by assumption:(m.chans.getD c ch0).lossy=true→s.chans.getD c []=[]) h.1;rw [e] at h;exact absurd h.2 (zbm 0)),zb (by assumption)];rfl
   ((conv=>whnf);refine ⟨c+1,⟨by omega,.inl (by omega)⟩,⟨⟨Le.refl _,qmp hE 2,trivial⟩,⟨qmo Mv.cells {} hE rfl,trivial⟩⟩,⟨qa,qa⟩,?_⟩;(first|omega|(dsimp only;omega)|skip))
  ·have hE:L=qu m s m.procs.length++qay m s (c+1):=by rw [qic,← zn,hL];rw [qtg,za (fun h=>by have e:=(by assumption:(m.chans.getD c ch0).lossy=true→s.chans.getD c []=[]) h.1;rw [e] at h;exact absurd h.2 (zbm 0)),za (fun h=>by have:=(by assumption:(m.chans.getD c ch0).copying=true→0<(s.chans.getD c []).length→(m.chans.getD c ch0).room≤((s.chans.getD c []).length:Int)) h.1.1 h.1.2;omega)];simp
   ((conv=>whnf);refine ⟨c+1,⟨by omega,.inl (by omega)⟩,⟨⟨Le.refl _,qhc hE 2,trivial⟩,⟨qfj Mv.cells {} hE,trivial⟩⟩,⟨qa,qa⟩,?_⟩;(first|omega|(dsimp only;omega)|skip))
  ·have hmv:qp m s=qu m s m.procs.length++qay m s c:=by
    unfold qp
    by_cases hho:s.holder=-1
    ·obtain rfl:c=m.chans.length:=by omega
     rw [zb hho];rfl
    ·obtain rfl:c=0:=hc2.resolve_left hho
     rw [za hho];rfl
   rw [hmv,hL]
   exact Le.refl _
def qth (m:Md) (s:Stt) (i:Nat):Bool:=(List.range i).all fun j=>(m.procs.getD j pr0).rest.getD (s.at_.getD j 0).toNat false
theorem jrq (m:Md) (s:Stt) (i:Nat):qth m s (i+1)=(qth m s i && (m.procs.getD i pr0).rest.getD (s.at_.getD i 0).toNat false):=by
 unfold qth
 rw [zbj,List.all_append];simp
theorem jrr (m:Md) (hM:ModOk m) (s:Stt) (hf:fitsB m s=true):Con Tryz.prog 33 [m.av,s.av] (.bool (qoz m s)):=by
 have hmv:=qxb m hM s hf
 have h0:=(jn m s).1 hf
 have hz:=hM.sz
 have hr:=fun (q:Pr) hq=>(hM.pr q hq).rl
 have hat:=h0.1.1
 have hfa:=h0.2.1
 unfold qoz
 refine zK {} 300 Tryz.func33 (fun c0 rdb=>?_)
 (repeat' ((conv=>whnf);first|refine zA ?_|refine zO ?_|refine Ob.auto ?_|refine zI ?_|refine zD 300 ?_|(apply zB <;> intro hb <;> (try simp [-zd] at hb) <;> try (exfalso;omega))|refine Ob.intro ?_ ?_))
 ((conv=>whnf);refine qm (fun _=>rfl) 300 1 (fun i:Nat=>[(6,iv i),(5,.bool (qth m s i))]) (fun _=>[]) (fun i=>i≤m.procs.length) (fun i=>m.procs.length - i) (0) (zv _) qa qa (fun _=>rfl) (by kernel_rfl) ?_;(conv=>whnf))
 intro i hi
 have hri:i<m.procs.length→0≤s.at_.getD i 0∧s.at_.getD i 0<((m.procs.getD i pr0).rest.length:Int):=fun h=>by
  have h1:=hfa i (by omega)
  have h2:=hr _ (qk m.procs i pr0 h)
  unfold qjc at h1
  omega
 (repeat' ((conv=>whnf);first|refine zA ?_|refine zO ?_|refine Ob.auto ?_|(refine Ob.intro (by (first|exact ⟨by omega,by omega⟩|exact hri (by omega)|(intro h;exact ⟨by omega,by omega⟩)|(intro h;exact hri (by omega))|(intro h;exact ⟨h,by omega,by omega⟩)|(intro h;exact ⟨h,hri (by omega)⟩))) ?_)|refine zC 300 (hmv) ?_|refine zG 300 (fun hg=>hmv) ?_|(refine CallY.con (hmv) (by rfl) leA ?_)|(refine CallZ.con (fun hg=>hmv) qz (by rfl) ?_)|(refine qi (fun _=>rfl) 300 (hmv) qc (by (repeat' (first|exact trivial|exact Le.refl _|(refine And.intro ?_ ?_))) <;> fail) (by rfl) (by kernel_rfl) ?_)|(refine qq (fun _=>rfl) 300 (fun hg=>hmv) (fun hg=>qc) (fun hg=>(by (repeat' (first|exact trivial|exact Le.refl _|exact Le.cnd hg|(refine And.intro ?_ ?_))) <;> fail)) (by rfl) (by kernel_rfl) ?_)|refine zD 300 ?_|(apply zB <;> intro hb <;> (try simp [-zd] at hb) <;> try (exfalso;omega))|refine Ob.intro ?_ ?_))
 ·((conv=>whnf);refine ⟨i+1,by omega,⟨⟨Le.refl _,Le.of_eq (congrArg AV.bool (jrq m s i).symm),trivial⟩,qa⟩,⟨qa,qa⟩,?_⟩;(first|omega|(dsimp only;omega)|skip))
 ·obtain rfl:i=m.procs.length:=by omega
  refine Le.of_eq (congrArg AV.bool ?_)
  have e:(((qp m s).length:Int) == 0)=(qp m s).isEmpty:=by
   cases qp m s with
   | nil=>rfl
   | cons a b=>simp;omega
  rw [e];rfl
theorem jei (m:Md) (hM:ModOk m) (s:Stt) (hf:fitsB m s=true):Con Tryz.prog 13 [m.av,s.av] (.bool (badB m s)):=by
 have hsf:=jpo m hM.ok s (qkv hM.ok hf)
 have hdd:=jrr m hM s hf
 unfold badB
 refine zK {} 300 Tryz.func13 (fun c0 rdb=>?_)
 (repeat' ((conv=>whnf);first|refine zA ?_|refine zO ?_|refine Ob.auto ?_|refine zC 300 (hsf) ?_|refine zG 300 (fun hg=>hsf) ?_|(refine CallY.con (hsf) (by rfl) leA ?_)|(refine CallZ.con (fun hg=>hsf) qz (by rfl) ?_)|refine zC 300 (hdd) ?_|refine zG 300 (fun hg=>hdd) ?_|(refine CallY.con (hdd) (by rfl) leA ?_)|(refine CallZ.con (fun hg=>hdd) qz (by rfl) ?_)|(refine qi (fun _=>rfl) 300 (hsf) qc (by (repeat' (first|exact trivial|exact Le.refl _|(refine And.intro ?_ ?_))) <;> fail) (by rfl) (by kernel_rfl) ?_)|(refine qq (fun _=>rfl) 300 (fun hg=>hsf) (fun hg=>qc) (fun hg=>(by (repeat' (first|exact trivial|exact Le.refl _|exact Le.cnd hg|(refine And.intro ?_ ?_))) <;> fail)) (by rfl) (by kernel_rfl) ?_)|(refine qi (fun _=>rfl) 300 (hdd) qc (by (repeat' (first|exact trivial|exact Le.refl _|(refine And.intro ?_ ?_))) <;> fail) (by rfl) (by kernel_rfl) ?_)|(refine qq (fun _=>rfl) 300 (fun hg=>hdd) (fun hg=>qc) (fun hg=>(by (repeat' (first|exact trivial|exact Le.refl _|exact Le.cnd hg|(refine And.intro ?_ ?_))) <;> fail)) (by rfl) (by kernel_rfl) ?_)|refine zD 300 ?_|(apply zB <;> intro hb <;> (try simp [-zd] at hb) <;> try (exfalso;omega))|refine Ob.intro ?_ ?_))
 exact Le.refl _
end Go.Proofs.YtikahnkkfkoglaaGreatDoor
end
section
namespace Go.Proofs.YtikahnkkfkoglaaGreatDoor
open Go Go.Sx Go.RowKit Go.St
set_option maxRecDepth 100000
set_option maxHeartbeats 4000000
theorem qxc {k i:Nat} (h:k≠i):(k<i+1)=(k<i):=propext ⟨fun _=>by omega,fun _=>by omega⟩
theorem qjl {f g:Nat→List AV} {m q:Nat} (hq:q<m):appF 0 f m g q=g q:=by
 unfold appF
 rw [za (by omega),zb (by omega),zam]
theorem jrs (l:List Int) (hl:l.length≤1000000):Con Tryz.prog 120 [ints l] (ints l):=by
 refine zK {} 300 Tryz.func120 (fun c0 rdb=>?_)
 (repeat' ((conv=>whnf);first|refine Ob.auto ?_|(refine Ob.intro (by ((refine ⟨by omega,by omega,by omega,?_⟩;dsimp only;refine zbq (zax (?_:_≤(4000001:Int)) (zao _)) (by decide +kernel);omega))) ?_)|fail))
 exact Le.slc (by simp) (fun q hq=>qjl (by simpa using hq))
theorem qpq (l:List Int) (hl:l.length≤1000000):Trip Tryz.prog 120 [ints l] [] (.own 0 0 0 l.length) [(0,.row [] 3 1 0 l.length (encL (fun n=>[iv n]) 0 l))] 1:=by
 refine zL {} 300 Tryz.func120 (fun c0 rdb mpb=>?_)
 (repeat' ((conv=>whnf);first|refine Ob.auto ?_|(refine Ob.intro (by ((refine ⟨by omega,by omega,by omega,?_⟩;dsimp only;refine zbq (zax (?_:_≤(4000001:Int)) (zao _)) (by decide +kernel);omega))) ?_)|fail))
 refine ⟨Le.of_eq (by simp),⟨⟨rfl,rfl,by simp⟩,rfl,by simp,fun q hq=>LeL.of_eq (qjl (by simpa using hq))⟩,trivial⟩
theorem jej (s:Stt) (hs:SSz s):Trip Tryz.prog 85 [s.av] [] (.agg [.own 4 0 0 s.at_.length,.own 8 0 0 s.vars.length,.own 13 0 0 s.chans.length,iv s.holder])
  [(4,.row [] 3 1 0 s.at_.length (encL (fun n=>[iv n]) 0 s.at_)),(8,.row [] 3 1 0 s.vars.length (encL (fun n=>[iv n]) 0 s.vars)),(13,.row [] 27 1 0 s.chans.length (encL (fun c=>[ints c]) [] s.chans))] 14:=by
 have ha:=hs.a
 have hv:=hs.v
 have hc:=hs.c
 have hl:=hs.l
 refine zL {} 300 Tryz.func85 (fun c0 rdb mpb=>?_)
 ((conv=>whnf);refine qbm (fun _=>rfl) (by kernel_rfl) 300 [.new [ints s.at_] (.own 0 0 0 s.at_.length) [(0,.row [] 3 1 0 s.at_.length (encL (fun n=>[iv n]) 0 s.at_))] 1,.new [ints s.vars] (.own 0 0 0 s.vars.length) [(0,.row [] 3 1 0 s.vars.length (encL (fun n=>[iv n]) 0 s.vars))] 1] (by kernel_rfl) ?_)
 (repeat' ((conv=>whnf);first|refine Ob.auto ?_|(refine Ob.intro (by (first|(refine ⟨by omega,by omega,by omega,?_⟩;dsimp only;refine zbq (zax (?_:_≤(4000001:Int)) (zao _)) (by decide +kernel);omega)|exact ⟨qpq s.at_ hs.a,by rfl,LeL.refl _,by kernel_rfl,by kernel_rfl,by exact qb rfl⟩|exact ⟨qpq s.vars hs.v,by rfl,LeL.refl _,by kernel_rfl,by kernel_rfl,by exact qb rfl⟩)) ?_)|fail))
 ((conv=>whnf);refine qm (fun _=>rfl) 300 1 (fun i:Nat=>[(22,iv i)]) (fun i=>[(13,.row [] 27 1 0 s.chans.length (fun k=>[if k<i then ints (s.chans.getD k []) else .nils]))]) (fun i=>i≤s.chans.length) (fun i=>s.chans.length - i) (0) (by omega) qa ⟨qcb (fun k _=>by rw [za (zh k)];rfl),trivial⟩ (fun _=>rfl) (by kernel_rfl) ?_;(conv=>whnf))
 intro i hi
 (repeat' ((conv=>whnf);first|refine Ob.auto ?_|(apply zB <;> intro hb <;> (try simp [-List.getD_eq_getElem?_getD] at hb) <;> try (exfalso;omega))))
 ·((conv=>whnf);refine qbm (fun _=>rfl) (by kernel_rfl) 300 [.con (ints (s.chans.getD i []))] (by kernel_rfl) ?_)
  (repeat' ((conv=>whnf);first|refine Ob.auto ?_|(refine Ob.intro (by (first|exact ⟨by omega,by omega⟩|exact ⟨_,jrs (s.chans.getD i []) (hl _ (qk _ _ _ (by omega))),by rfl,LeL.refl _⟩)) ?_)|fail))
  ((conv=>whnf);refine ⟨i+1,by omega,⟨qa,qa⟩,⟨qa,qa⟩,?_⟩;(first|omega|(dsimp only;omega)|skip))
 ·obtain rfl:i=s.chans.length:=by omega
  exact ⟨Le.refl _,⟨⟨rfl,rfl,rfl⟩,rfl,rfl,fun q hq=>LeL.refl _⟩,⟨⟨rfl,rfl,rfl⟩,rfl,rfl,fun q hq=>LeL.refl _⟩,qcb (fun k hk=>by rw [zb (by simpa using hk)];rfl),trivial⟩
theorem jek (s:Stt) (hs:SSz s):Trip Tryz.prog 85 [s.av] [] (.agg [.own 4 0 0 s.at_.length,.own 8 0 0 s.vars.length,.own 13 0 0 s.chans.length,iv s.holder])
  [(4,.row [] 3 1 0 s.at_.length (encL (fun n=>[iv n]) 0 s.at_)),(8,.row [] 3 1 0 s.vars.length (encL (fun n=>[iv n]) 0 s.vars)),(13,.row [19] 27 1 0 s.chans.length (fun k=>[.own 19 k 1 (s.chans.getD k []).length])),
   (19,.fam 3 1 s.chans.length (fun _=>1) (fun k=>(s.chans.getD k []).length) (fun k=>encL (fun n=>[iv n]) 0 (s.chans.getD k [])))] 20:=by
 have ha:=hs.a
 have hv:=hs.v
 have hc:=hs.c
 have hl:=hs.l
 refine zL {} 300 Tryz.func85 (fun c0 rdb mpb=>?_)
 ((conv=>whnf);refine qbm (fun _=>rfl) (by kernel_rfl) 300 [.new [ints s.at_] (.own 0 0 0 s.at_.length) [(0,.row [] 3 1 0 s.at_.length (encL (fun n=>[iv n]) 0 s.at_))] 1,.new [ints s.vars] (.own 0 0 0 s.vars.length) [(0,.row [] 3 1 0 s.vars.length (encL (fun n=>[iv n]) 0 s.vars))] 1] (by kernel_rfl) ?_)
 (repeat' ((conv=>whnf);first|refine Ob.auto ?_|(refine Ob.intro (by (first|(refine ⟨by omega,by omega,by omega,?_⟩;dsimp only;refine zbq (zax (?_:_≤(4000001:Int)) (zao _)) (by decide +kernel);omega)|exact ⟨qpq s.at_ hs.a,by rfl,LeL.refl _,by kernel_rfl,by kernel_rfl,by exact qb rfl⟩|exact ⟨qpq s.vars hs.v,by rfl,LeL.refl _,by kernel_rfl,by kernel_rfl,by exact qb rfl⟩)) ?_)|fail))
 refine jnm 13 3 1 rfl (fun _ _=>rfl) ?_
 ((conv=>whnf);refine jcq (fun _=>rfl) 300 1 (fun i:Nat=>[(22,iv i)]) (fun i=>[(13,.row [19] 27 1 0 s.chans.length (fun k=>[.own 19 k (if k<i then 1 else 0) (if k<i then (s.chans.getD k []).length else 0)])),(19,.fam 3 1 s.chans.length (fun k=>if k<i then 1 else 0) (fun k=>if k<i then (s.chans.getD k []).length else 0) (fun k=>encL (fun n=>[iv n]) 0 (s.chans.getD k [])))]) (fun i=>i≤s.chans.length) (fun i=>s.chans.length - i) (0) (by omega) qa ⟨qcb (fun k _=>by rw [za (zh k),za (zh k)]),qgs (fun k _=>by rw [za (zh k)]) (fun k _=>by rw [za (zh k)]) (fun k j _ hj=>absurd hj (zh _)),trivial⟩ (fun _=>rfl) (by kernel_rfl) ?_;(conv=>whnf))
 intro i hi
 (repeat' ((conv=>whnf);first|refine Ob.auto ?_|(apply zB <;> intro hb <;> (try simp [-List.getD_eq_getElem?_getD] at hb) <;> try (exfalso;omega))))
 ·have hci:=hl _ (qk s.chans i [] (by omega))
  ((conv=>whnf);refine qbm (fun _=>rfl) (by kernel_rfl) 300 [.new [ints (s.chans.getD i [])] (.own 0 0 0 (s.chans.getD i []).length) [(0,.row [] 3 1 0 (s.chans.getD i []).length (encL (fun n=>[iv n]) 0 (s.chans.getD i [])))] 1] (by kernel_rfl) ?_)
  (repeat' ((conv=>whnf);first|refine Ob.auto ?_|(refine Ob.intro (by (first|exact ⟨by omega,by omega⟩|exact ⟨qpq _ hci,by rfl,LeL.refl _,by kernel_rfl,by kernel_rfl,by exact qb rfl⟩)) ?_)|fail))
  ((conv=>whnf);refine ⟨i+1,by omega,⟨_,Turn.absorb 13 19 24 i rfl rfl rfl (by omega) (by decide) (by exact zb rfl) (fun k _ hne=>⟨_,_,za hne⟩),⟨qa,⟨qcb (fun k _=>?_),qgs (fun k _=>?_) (fun k _=>?_) (fun k j _ hj=>?_),trivial⟩⟩,⟨qa,qa⟩⟩,?_⟩;(first|omega|(dsimp only;omega)|skip))
  ·by_cases hki:k=i
   ·subst hki
    refine (zb rfl).trans ?_
    simp
   ·refine (za hki).trans ((za hki).trans ?_)
    simp only [qxc hki]
  ·unfold upd
   by_cases hki:k=i
   ·subst hki;simp
   ·rw [za hki];simp only [qxc hki]
  ·unfold upd
   by_cases hki:k=i
   ·subst hki;simp
   ·rw [za hki];simp only [qxc hki]
  ·unfold upd
   by_cases hki:k=i
   ·subst hki;rw [zb rfl]
   ·rw [za hki]
  ·omega
 ·obtain rfl:i=s.chans.length:=by omega
  exact ⟨Le.refl _,⟨⟨rfl,rfl,rfl⟩,rfl,rfl,fun q hq=>LeL.refl _⟩,⟨⟨rfl,rfl,rfl⟩,rfl,rfl,fun q hq=>LeL.refl _⟩,qcb (fun k hk=>by rw [zb hk,zb hk]),qgs (fun k hk=>by rw [zb hk]) (fun k hk=>by rw [zb hk]) (fun _ _ _ _=>rfl),trivial⟩
end Go.Proofs.YtikahnkkfkoglaaGreatDoor
end
