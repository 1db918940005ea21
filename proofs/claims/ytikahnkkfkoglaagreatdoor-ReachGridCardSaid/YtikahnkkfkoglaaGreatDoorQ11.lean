/- Some texts of the library, one behind the other. -/
import Derived.Test.YtikahnkkfkoglaaGreatDoorQ10
import Derived.Test.YtikahnkkfkoglaaGreatDoorQ2
import Derived.Test.YtikahnkkfkoglaaGreatDoorQ4
set_option linter.unusedSimpArgs false
set_option linter.unusedVariables false
section
namespace Go.Proofs.YtikahnkkfkoglaaGreatDoor
open List renaming getD_eq_getElem?_getD → zd
open Go Go.Sx Go.RowKit Go.St
set_option maxRecDepth 100000
set_option maxHeartbeats 4000000
structure StIn (s:Stt):Prop where
 a:∀ n∈s.at_,-9223372036854775808≤n∧n≤9223372036854775807
 v:∀ n∈s.vars,-9223372036854775808≤n∧n≤9223372036854775807
 c:∀ l∈s.chans,∀ n∈l,-9223372036854775808≤n∧n≤9223372036854775807
 h:-9223372036854775808≤s.holder∧s.holder≤9223372036854775807
 m:s.chans.length≤1000000
theorem qrp (l:List Int) (hl:l.length≤1000000) (hr:∀ n∈l,-9223372036854775808≤n∧n≤9223372036854775807):(qdr l).length≤23000000:=by
 have h1:=jcq [] l hl hr l.length
 have h2:=congrArg List.length (jcr [] l)
 simp only [zg,zaj,xh,List.nil_append] at h1 h2
 omega
def keyI (s:Stt) (j:Nat):List UInt8:=qdr s.at_++qdr s.vars++(s.chans.take j).flatMap qdr
theorem jqw (s:Stt) (hs:SSz s) (hi:StIn s) (j:Nat) (hj:j≤s.chans.length):(keyI s j).length≤46000000+23000000 * j:=by
 have key:∀ (m:List (List Int)) (j:Nat),(∀ l∈m,(qdr l).length≤23000000)→((m.take j).flatMap qdr).length≤23000000 * j:=by
  intro m
  induction m with
  | nil=>intro j _;simp
  | cons x m ih=>
   intro j h
   cases j with
   | zero=>simp
   | succ j=>
    rw [List.take_succ_cons,List.flatMap_cons,zg]
    have h1:=ih j (fun n hn=>h n (zu _ hn))
    have h2:=h x (zt ..)
    omega
 have h1:=key s.chans j (fun l hl=>qrp l (hs.l l hl) (hi.c l hl))
 have h2:=qrp s.at_ hs.a hi.a
 have h3:=qrp s.vars hs.v hi.v
 unfold keyI
 simp only [zg]
 omega
theorem jqx (s:Stt) (j:Nat) (hj:j<s.chans.length):keyI s j++qdr (s.chans.getD j [])=keyI s (j+1):=by
 have h:s.chans.take (j+1)=s.chans.take j++[s.chans.getD j []]:=by
  rw [List.take_add_one,zd,ze hj];rfl
 unfold keyI
 rw [h,List.flatMap_append]
 simp
theorem jqy (l:List UInt8):qck l.length (digF l)=l:=by
 apply List.ext_getElem
 ·simp [qck]
 ·intro i h1 h2
  simp only [qck,List.getElem_map,List.getElem_range,digF,qpm]
  rw [zd,ze h2]
  simp
theorem jqz (s:Stt) (hs:SSz s) (hi:StIn s):Con Tryz.prog 50 [s.av] (.str (keyT s)):=by
 refine zK {} 300 Tryz.func50 (fun c0 rdb=>?_)
 (repeat' ((conv=>whnf);first|refine zA ?_|refine zO ?_|refine Ob.auto ?_|refine zD 300 ?_|(apply zB <;> intro hb <;> (try simp [-zd] at hb) <;> try (exfalso;omega))|refine Ob.intro ?_ ?_))
 refine jcs 1 0 5 1 rfl rfl ?_
 ((conv=>whnf);refine zT 300 [1,2] (quv [] s.at_ hs.a hi.a (by simp)) (⟨⟨rfl,Le.refl _,trivial⟩,⟨⟨rfl,rfl,rfl⟩,rfl,rfl,fun k hk=>absurd hk (zi k)⟩,trivial⟩) ?_)
 (repeat' ((conv=>whnf);first|refine zA ?_|refine zO ?_|refine Ob.auto ?_|refine zD 300 ?_|(apply zB <;> intro hb <;> (try simp [-zd] at hb) <;> try (exfalso;omega))|refine Ob.intro ?_ ?_))
 ((conv=>whnf);refine zT 300 [1,2] (quv ([]++qdr s.at_) s.vars hs.v hi.v (by have:=qrp s.at_ hs.a hi.a;simp;omega)) qa ?_)
 (repeat' ((conv=>whnf);first|refine zA ?_|refine zO ?_|refine Ob.auto ?_|refine zD 300 ?_|(apply zB <;> intro hb <;> (try simp [-zd] at hb) <;> try (exfalso;omega))|refine Ob.intro ?_ ?_))
 ((conv=>whnf);refine qt (fun _=>rfl) 300 1 (fun j:Nat=>[(19,iv j)]) (fun j=>[(1,.box 54 [.own 2 0 0 (keyI s j).length]),(2,.row [] 5 1 0 (keyI s j).length (digF (keyI s j)))]) (fun j=>j≤s.chans.length) (fun j=>s.chans.length - j) (0) (zw _) qa ⟨⟨rfl,Le.of_eq (congrArg (AV.own 2 0 0) (by simp [keyI])),trivial⟩,⟨⟨rfl,rfl,rfl⟩,rfl,by simp [keyI],fun k hk=>LeL.of_eq (by simp [keyI])⟩,trivial⟩ (fun _=>rfl) (by kernel_rfl) ?_;(conv=>whnf))
 intro j hj
 have hle:=jqw s hs hi j hj
 have hm:=hi.m
 (repeat' ((conv=>whnf);first|refine zA ?_|refine zO ?_|refine Ob.auto ?_|refine zD 300 ?_|(apply zB <;> intro hb <;> (try simp [-zd] at hb) <;> try (exfalso;omega))|refine Ob.intro ?_ ?_))
 ·have hjc:=qr s.chans j [] (by omega)
  ((conv=>whnf);refine zT 300 [1,2] (quv (keyI s j) (s.chans.getD j []) (hs.l _ hjc) (hi.c _ hjc) (by omega)) qa ?_)
  (repeat' ((conv=>whnf);first|refine zA ?_|refine zO ?_|refine Ob.auto ?_|refine zD 300 ?_|(apply zB <;> intro hb <;> (try simp [-zd] at hb) <;> try (exfalso;omega))|refine Ob.intro ?_ ?_))
  have hnx:=jqx s j (by omega)
  ((conv=>whnf);refine ⟨j+1,by omega,⟨qa,⟨⟨rfl,Le.of_eq (congrArg (AV.own 2 0 0) (by rw [← hnx])),trivial⟩,⟨⟨rfl,rfl,rfl⟩,rfl,by rw [← hnx],fun k hk=>LeL.of_eq (by rw [← hnx])⟩,trivial⟩⟩,⟨qa,qa⟩,?_⟩;(first|omega|(dsimp only;omega)|skip))
 ·obtain rfl:j=s.chans.length:=by omega
  have hend:keyI s s.chans.length++Lib.itoa s.holder=keyT s:=by unfold keyI keyT;rw [zba]
  have hcell:∀ k,k<(keyI s s.chans.length).length+(Lib.itoa s.holder).length→appF (keyI s s.chans.length).length (digF (keyI s s.chans.length)) (Lib.itoa s.holder).length (digF (Lib.itoa s.holder)) k=digF (keyT s) k:=fun k hk=>by
   rcases qro (keyI s s.chans.length) (Lib.itoa s.holder) k with h|h
   ·rw [h,hend]
   ·omega
  have hlen:(keyI s s.chans.length).length+(Lib.itoa s.holder).length=(keyT s).length:=by rw [← hend,zg]
  ((conv=>whnf);refine zT 300 [2] (quq 0 (keyI s s.chans.length).length (digF (keyI s s.chans.length)) s.holder hi.h.1 hi.h.2 (by omega)) qa ?_)
  (repeat' ((conv=>whnf);first|refine zA ?_|refine zO ?_|refine Ob.auto ?_|refine zD 300 ?_|(apply zB <;> intro hb <;> (try simp [-zd] at hb) <;> try (exfalso;omega))|refine Ob.intro ?_ ?_))
  ·exact ⟨⟨rfl,rfl⟩,fun k hk=>⟨(keyT s).getD k 0,hcell k hk⟩⟩
  ·refine Le.of_eq (congrArg AV.str ?_)
   rw [← jqy (keyT s),← hlen]
   exact xj fun k hk=>congrArg qpm (hcell k (List.mem_range.1 hk))
end Go.Proofs.YtikahnkkfkoglaaGreatDoor
end
section
namespace Go.Proofs.YtikahnkkfkoglaaGreatDoor
open Go Go.Sx Go.RowKit Go.St

end Go.Proofs.YtikahnkkfkoglaaGreatDoor
end
section
namespace Go.St
open Go Go.Sx
theorem jra {n n' w:Int} (h:n % 2 ^ wid w=n' % 2 ^ wid w):trim n w=trim n' w:=by
 unfold trim;rw [h]
theorem quw (n w:Int):trim (trim n w) w=trim n w:=by
 refine jra ?_
 have h2:=qgm (wid w) (qgl w).2
 have h3:=Int.emod_nonneg n (b:=2 ^ wid w) (by omega)
 have h4:=Int.emod_lt_of_pos n (b:=2 ^ wid w) (by omega)
 unfold trim
 split
 ·rw [Int.sub_emod_right];exact Int.emod_eq_of_lt h3 h4
 ·exact Int.emod_eq_of_lt h3 h4
structure Mv where
 kind:Int:=0
 proc:Int:=0
 edge:Int:=0
 chn:Int:=0
deriving DecidableEq
def Mv.cells (v:Mv):List AV:=[iv v.kind,iv v.proc,iv v.edge,iv v.chn]
def Mv.av (v:Mv):AV:=.agg v.cells
def jrb (l:List Mv):AV:=slcL Mv.cells {} 4 l
def qlen (s:Stt) (c:Int):Int:=(s.chans.getD c.toNat []).length
def room (m:Md) (c:Int):Int:=(m.chans.getD c.toNat ch0).room
def canB (m:Md) (s:Stt) (p:Nat) (e:Ed):Bool:=
  (s.at_.getD p 0 == e.frm) && (decide (e.expr<0) || (val m p s e.expr).2) &&
  (if e.act=2 then decide (qlen s e.chn<room m e.chn)
   else if e.act=3 then decide (0<qlen s e.chn)
   else if e.act=4 then !((if e.expr<0 then 0 else (val m p s e.expr).1) == 0)
   else if e.act=5 then (if e.expr<0 then 0 else (val m p s e.expr).1) == 0
   else true)
def qu (m:Md) (p:Nat):List Ed:=(m.procs.getD p pr0).edges
def qis (m:Md) (s:Stt) (p:Nat):List Mv:=((List.range (qu m p).length).filter fun i=>canB m s p ((qu m p).getD i ed0)).map fun (i:Nat)=>⟨0,p,i,0⟩
def qoo (m:Md) (s:Stt) (c:Nat):Bool:=(m.chans.getD c ch0).lossy && decide (0<qlen s c)
def qmd (m:Md) (s:Stt) (c:Nat):Bool:=(m.chans.getD c ch0).copying && decide (0<qlen s c) && decide (qlen s c<room m c)
def qfx (m:Md) (s:Stt) (c:Nat):List Mv:=(if qoo m s c=true then [⟨1,0,0,c⟩] else [])++(if qmd m s c=true then [⟨2,0,0,c⟩] else [])
def ji (m:Md) (s:Stt):List Mv:=
 (List.range m.procs.length).flatMap (fun (p:Nat)=>if s.holder≠-1∧s.holder≠p then [] else qis m s p) ++
 (if s.holder=-1 then (List.range m.chans.length).flatMap (qfx m s) else [])
def qux (m:Md) (s:Stt) (p:Nat):Bool:=(qu m p).any (canB m s p)
def qce (m:Md) (s:Stt) (p:Nat) (e:Ed):Stt:=
 let n:=if e.expr<0 then 0 else (val m p s e.expr).1
 let a:={ s with at_:=s.at_.set p e.to,holder:=-1 }
 if e.act=1 then { a with vars:=s.vars.set e.var.toNat (trim n (m.vars.getD e.var.toNat vr0).width) }
 else if e.act=2 then { a with chans:=s.chans.set e.chn.toNat (s.chans.getD e.chn.toNat []++[trim n (m.chans.getD e.chn.toNat ch0).width]) }
 else if e.act=3 then { a with vars:=s.vars.set e.var.toNat (trim ((s.chans.getD e.chn.toNat []).getD 0 0) (m.vars.getD e.var.toNat vr0).width),chans:=s.chans.set e.chn.toNat ((s.chans.getD e.chn.toNat []).drop 1) }
 else a
def qgq (m:Md) (s:Stt) (p:Nat) (e:Ed):Stt:=
 { qce m s p e with holder:=if e.keep=true∧qux m (qce m s p e) p=true then (p:Int) else -1 }
def qbh (m:Md) (s:Stt) (v:Mv):Stt:=
 if v.kind=1 then { s with chans:=s.chans.set v.chn.toNat ((s.chans.getD v.chn.toNat []).drop 1),holder:=-1 }
 else if v.kind=2 then { s with chans:=s.chans.set v.chn.toNat (s.chans.getD v.chn.toNat []++[(s.chans.getD v.chn.toNat []).getD 0 0]),holder:=-1 }
 else qgq m s v.proc.toNat ((qu m v.proc.toNat).getD v.edge.toNat ed0)
def quy (m:Md) (s:Stt):Bool:=(List.range m.procs.length).all fun p=>(m.procs.getD p pr0).rest.getD (s.at_.getD p 0).toNat false
def quz (m:Md) (s:Stt):Bool:=(ji m s).isEmpty && !quy m s
def badB (m:Md) (s:Stt):Bool:=!qnv m s || m.dead && quz m s
end Go.St
end
