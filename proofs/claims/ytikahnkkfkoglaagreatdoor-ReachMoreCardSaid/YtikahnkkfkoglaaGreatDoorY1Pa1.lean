/- Contracts of the document's parser: tokens. -/
import Derived.Test.YtikahnkkfkoglaaGreatDoorY1Pa2
import Derived.Test.YtikahnkkfkoglaaGreatDoorY1LexQ2
import Derived.Test.YtikahnkkfkoglaaGreatDoorY12
set_option linter.unusedSimpArgs false
set_option linter.unusedVariables false
namespace Go.Proofs.YtikahnkkfkoglaaGreatDoor
open List renaming getD_eq_getElem?_getD → zd
open Go Go.Sx Go.RowKit Go.St Pa
set_option maxRecDepth 100000
set_option maxHeartbeats 2000000
section
variable {ts:List Lx.Tok} {p:Ps}
abbrev pso (ts:List Lx.Tok) (p:Ps):SO:=.box 97 (p.cells ts)
theorem qfv:Con Tryz.prog 61 [.rptr (p.cells ts)] (.bool (p.err == 0)):=by
 refine zK {} 300 Tryz.func61 (fun c0 rdb=>?_)
 (repeat' ((conv=>whnf);first|refine Ob.auto ?_|fail))
 exact Le.refl _
theorem qkh (h:AtOk ts p):Con Tryz.prog 62 [.rptr (p.cells ts)] (.agg (Lx.encTok (tk ts p))):=by
 have h0:=h.lo
 have h1:=h.hi
 refine zK {} 300 Tryz.func62 (fun c0 rdb=>?_)
 (repeat' ((conv=>whnf);first|refine zO ?_|refine Ob.auto ?_|refine zD 300 ?_|fail))
 exact Le.refl _
theorem qfb (h:AtOk ts p) (s:List UInt8):Con Tryz.prog 89 [.rptr (p.cells ts),.str s] (.bool (sees ts p s)):=by
 refine zK {} 300 Tryz.func89 (fun c0 rdb=>?_)
 (repeat' ((conv=>whnf);first|refine Ob.auto ?_|refine zC 300 (qkh h) ?_|refine zC 300 (qfv) ?_|refine zG 300 (fun hg=>jea _) ?_|fail))
 refine Le.of_eq (congrArg AV.bool ?_)
 unfold sees qwe
 rw [Bool.and_assoc]
theorem qsg (h:AtOk ts p) (e:Int):Trip Tryz.prog 126 [.ptr 0 0,iv e] [pso ts p] (.tup []) [(0,pso ts (bad ts p e))] 1:=by
 refine zL {} 300 Tryz.func126 (fun c0 rdb mpb=>?_)
 (repeat' ((conv=>whnf);first|(refine ql (fun _=>rfl) 300 (qkh h) qc (by (repeat' (first|exact trivial|exact Le.refl _|(refine And.intro ?_ ?_))) <;> fail) (by rfl) (by kernel_rfl) ?_)|(refine ql (fun _=>rfl) 300 (qfv) qc (by (repeat' (first|exact trivial|exact Le.refl _|(refine And.intro ?_ ?_))) <;> fail) (by rfl) (by kernel_rfl) ?_)|(apply zB <;> intro hb <;> (try simp [-zd] at hb) <;> try (exfalso;omega))))
 ·have e1:bad ts p e={ p with err:=e,fat:=(tk ts p).pos }:=zb hb
  rw [e1]
  exact ⟨Le.refl _,qa⟩
 ·have e1:bad ts p e=p:=za hb
  rw [e1]
  exact ⟨Le.refl _,qa⟩
theorem qav (ht:ToksOk ts) (h:AtOk ts p) (s:List UInt8):Trip Tryz.prog 92 [.ptr 0 0,.str s] [pso ts p] (.bool (sees ts p s)) [(0,pso ts (took ts p s))] 1:=by
 have h0:=h.lo
 have h1:=h.hi
 have h2:=ht.len
 refine zL {} 300 Tryz.func92 (fun c0 rdb mpb=>?_)
 (repeat' ((conv=>whnf);first|refine Ob.auto ?_|(refine ql (fun _=>rfl) 300 (qfb h s) qc (by (repeat' (first|exact trivial|exact Le.refl _|(refine And.intro ?_ ?_))) <;> fail) (by rfl) (by kernel_rfl) ?_)|(apply zB <;> intro hb <;> (try simp [-zd] at hb) <;> try (exfalso;omega))))
 ·rw [hb,took,za (by rw [hb];decide)]
  exact ⟨Le.refl _,qa⟩
 ·rw [hb,took,zb hb]
  exact ⟨Le.refl _,qa⟩
theorem qbb (ht:ToksOk ts) (h:AtOk ts p) (s:List UInt8):Trip Tryz.prog 94 [.ptr 0 0,.str s] [pso ts p] (.tup []) [(0,pso ts (must ts p s))] 1:=by
 refine zL {} 300 Tryz.func94 (fun c0 rdb mpb=>?_)
 ((conv=>whnf);refine zT 300 [0] (qav ht h s) qa ?_)
 (repeat' ((conv=>whnf);first|(apply zB <;> intro hb <;> (try simp [-zd] at hb) <;> try (exfalso;omega))))
 ·have e1:took ts p s=p:=za (by rw [hb];decide)
  have e2:must ts p s=bad ts p 11:=za (by rw [hb];decide)
  rw [e1]
  ((conv=>whnf);refine zT 300 [0] (qsg h 11) qa ?_)
  rw [e2]
  exact ⟨Le.refl _,qa⟩
 ·have e1:took ts p s=adv p:=zb hb
  have e2:must ts p s=adv p:=zb hb
  rw [e1,e2]
  exact ⟨Le.refl _,qa⟩
theorem qhq (ht:ToksOk ts) (h:AtOk ts p):Trip Tryz.prog 93 [.ptr 0 0] [pso ts p] (.str (qad ts p)) [(0,pso ts (qf ts p))] 1:=by
 have h0:=h.lo
 have h1:=h.hi
 have h2:=ht.len
 refine zL {} 300 Tryz.func93 (fun c0 rdb mpb=>?_)
 (repeat' ((conv=>whnf);first|refine Ob.auto ?_|refine zG 300 (fun hg=>jeb _) ?_|(refine ql (fun _=>rfl) 300 (qkh h) qc (by (repeat' (first|exact trivial|exact Le.refl _|(refine And.intro ?_ ?_))) <;> fail) (by rfl) (by kernel_rfl) ?_)|(refine qw (fun _=>rfl) 300 (fun hg=>qfv) (fun hg=>qc) (fun hg=>(by (repeat' (first|exact trivial|exact Le.refl _|exact Le.cnd hg|(refine And.intro ?_ ?_))) <;> fail)) (by rfl) (by kernel_rfl) ?_)|(apply zB <;> intro hb <;> (try simp [-zd] at hb) <;> try (exfalso;omega))))
 ·have e:qho ts p=false:=by
   unfold qho
   rcases hb with (hb|hb)|hb <;> simp [hb]
  ((conv=>whnf);refine zT 300 [0] (qsg h 11) qa ?_)
  rw [qad,qf,za (by rw [e];decide),za (by rw [e];decide)]
  exact ⟨Le.refl _,qa⟩
 ·have e:qho ts p=true:=by
   unfold qho
   simp [hb.1.1,hb.1.2,hb.2]
  rw [qad,qf,zb e,zb e]
  exact ⟨Le.refl _,qa⟩
theorem qki (ht:ToksOk ts) (h:AtOk ts p):Trip Tryz.prog 95 [.ptr 0 0] [pso ts p] (iv (numN ts p)) [(0,pso ts (numP ts p))] 1:=by
 have h0:=h.lo
 have h1:=h.hi
 have h2:=ht.len
 refine zL {} 300 Tryz.func95 (fun c0 rdb mpb=>?_)
 (repeat' ((conv=>whnf);first|refine Ob.auto ?_|(refine ql (fun _=>rfl) 300 (qkh h) qc (by (repeat' (first|exact trivial|exact Le.refl _|(refine And.intro ?_ ?_))) <;> fail) (by rfl) (by kernel_rfl) ?_)|(refine qw (fun _=>rfl) 300 (fun hg=>qfv) (fun hg=>qc) (fun hg=>(by (repeat' (first|exact trivial|exact Le.refl _|exact Le.cnd hg|(refine And.intro ?_ ?_))) <;> fail)) (by rfl) (by kernel_rfl) ?_)|(apply zB <;> intro hb <;> (try simp [-zd] at hb) <;> try (exfalso;omega))))
 ·have e:qgm ts p=false:=by
   unfold qgm
   rcases hb with hb|hb <;> simp [hb]
  ((conv=>whnf);refine zT 300 [0] (qsg h 11) qa ?_)
  rw [numN,numP,za (by rw [e];decide),za (by rw [e];decide)]
  exact ⟨Le.refl _,qa⟩
 ·have e:qgm ts p=true:=by
   unfold qgm
   simp [hb.1,hb.2]
  have hnum:=ht.num _ (qsc h) hb.1
  have hdg:=qwh hnum.2
  rw [numN,numP,zb e,zb e]
  ((conv=>whnf);refine qo (fun _=>rfl) 300 1 (fun i:Nat=>[(4,iv (qgn ((tk ts p).s.take i))),(5,iv i)]) (fun _=>[]) (fun i=>i≤(tk ts p).s.length) (fun i=>(tk ts p).s.length - i) (0) (by omega) qa qa (fun _=>rfl) (by kernel_rfl) ?_;(conv=>whnf))
  intro i hi
  have h3:=hdg i hi
  have h6:(10:Int) ^ i≤10 ^ 6:=by exact_mod_cast Nat.pow_le_pow_right (show 0<10 by decide) (show i≤6 by omega)
  have hby:i<(tk ts p).s.length→qbc (tk ts p).s (i:Int)=(((tk ts p).s[i]?.getD 0).toNat:Int)∧48≤((tk ts p).s[i]?.getD 0).toNat∧((tk ts p).s[i]?.getD 0).toNat≤57:=fun hlt=>by
   have h7:=hnum.2 _ (xt hlt)
   rw [ze hlt]
   exact ⟨Lx.byteAt_get hlt,h7⟩
  (repeat' ((conv=>whnf);first|refine Ob.auto ?_|(refine Ob.intro (by (first|exact ⟨by omega,by omega⟩|exact qeh (by omega) (by omega)|exact ⟨by have:=hby (by omega);show (0:Int)≤_;omega,by have:=hby (by omega);show _≤(255:Int);omega⟩|exact qeh (by have:=hby (by omega);omega) (by have:=hby (by omega);omega))) ?_)|(apply zB <;> intro hb <;> (try simp [-zd] at hb) <;> try (exfalso;omega))))
  ·have h7:=hby hb
   have h8:qgn ((tk ts p).s.take (i+1))=10 * qgn ((tk ts p).s.take i)+(qbc (tk ts p).s (i:Int) - 48):=by
    rw [List.take_succ_eq_append_getElem hb,jdu,Lx.byteAt_get hb]
   ((conv=>whnf);refine ⟨i+1,by omega,⟨⟨Le.of_eq (congrArg iv h8.symm),Le.refl _,trivial⟩,qa⟩,⟨qa,qa⟩,?_⟩;(first|omega|(dsimp only;omega)|skip))
  ·rw [List.take_of_length_le hb]
   exact ⟨Le.refl _,qa⟩
theorem qwr (ht:ToksOk ts) (h:AtOk ts p) (s:List UInt8):Trip Tryz.prog 96 [.ptr 0 0,.str s] [pso ts p] (iv (qgo ts p s)) [(0,pso ts (took ts p s))] 1:=by
 refine zL {} 300 Tryz.func96 (fun c0 rdb mpb=>?_)
 ((conv=>whnf);refine zT 300 [0] (qav ht h s) qa ?_)
 (repeat' ((conv=>whnf);first|(apply zB <;> intro hb <;> (try simp [-zd] at hb) <;> try (exfalso;omega))))
 ·rw [qgo,zb hb]
  exact ⟨Le.refl _,qa⟩
 ·rw [qgo,za (by rw [hb];decide)]
  exact ⟨Le.refl _,qa⟩
theorem qkj (h:AtOk ts p) (k:Int):Con Tryz.prog 60 [.rptr (p.cells ts),iv k] (.agg [iv k,.nils,.nils,.nils,iv (tk ts p).pos,.nils]):=by
 refine zK {} 300 Tryz.func60 (fun c0 rdb=>?_)
 (repeat' ((conv=>whnf);first|refine Ob.auto ?_|refine zC 300 (qkh h) ?_|fail))
 exact Le.refl _
theorem qlx (h:AtOk ts p) (hd:0≤p.deep∧p.deep≤100000):Trip Tryz.prog 124 [.ptr 0 0] [pso ts p] (.tup []) [(0,pso ts (inP ts p))] 1:=by
 refine zL {} 300 Tryz.func124 (fun c0 rdb mpb=>?_)
 (repeat' ((conv=>whnf);first|refine Ob.auto ?_|(apply zB <;> intro hb <;> (try simp [-zd] at hb) <;> try (exfalso;omega))))
 ·have h':AtOk ts { p with deep:=p.deep+1 }:=⟨h.lo,h.hi⟩
  ((conv=>whnf);refine zT 300 [0] (qsg h' 12) qa ?_)
  rw [inP,zb (by omega)]
  exact ⟨Le.refl _,qa⟩
 ·rw [inP,za (by omega)]
  exact ⟨Le.refl _,qa⟩
end
end Go.Proofs.YtikahnkkfkoglaaGreatDoor
