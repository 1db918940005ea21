/- Some texts of the library, one behind the other. -/
import Derived.Test.YtikahnkkfkoglaaGreatDoorY16
import Derived.Test.YtikahnkkfkoglaaGreatDoorY17
import Derived.Test.YtikahnkkfkoglaaGreatDoorY12
import Derived.Lib.ItoaLen
import Derived.Test.YtikahnkkfkoglaaGreatDoorY14
set_option linter.unusedSimpArgs false
set_option linter.unusedVariables false
section
namespace Go.Proofs.YtikahnkkfkoglaaGreatDoor
open List renaming getD_eq_getElem?_getD → zd
open Go Go.Sx Go.RowKit Go.St
set_option maxRecDepth 100000
set_option maxHeartbeats 4000000
def qdj (l:List Int):List UInt8:=Lib.itoa l.length++(l.flatMap fun n=>32::Lib.itoa n)++[59]
def keyT (s:Stt):List UInt8:=qdj s.at_++qdj s.vars++(s.chans.flatMap qdj)++Lib.itoa s.holder
def qur (l:List UInt8):SO:=.row [] 5 1 0 l.length (digF l)
theorem qrl (a b:List UInt8) (k:Nat):appF a.length (digF a) b.length (digF b) k=digF (a++b) k∨a.length+b.length≤k:=by
 unfold appF
 by_cases h:k<a.length
 ·left
  rw [zb h];unfold digF
  rw [zd (l:=a++b),zr h,← zd]
 ·by_cases h2:k<a.length+b.length
  ·left
   rw [za h,zb h2];unfold digF
   rw [zd (l:=a++b),zp (by omega),← zd]
  ·right;omega
theorem jnz (a b:List UInt8) {c:List UInt8} (hc:a++b=c) {ids:List Nat} {e:TypeId} {ep:Nat} {f:Nat→List AV} (hf:∀ k,k<a.length+b.length→f k=appF a.length (digF a) b.length (digF b) k):SoLe (.row ids e 1 ep (a.length+b.length) f) (.row ids e 1 ep c.length (digF c)):=by
 subst hc
 refine ⟨⟨rfl,rfl,rfl⟩,rfl,by simp,fun k hk=>LeL.of_eq ?_⟩
 rw [hf k hk]
 rcases qrl a b k with h|h
 ·exact h
 ·omega
theorem jbm (a:List UInt8) (x:UInt8) (k:Nat) (h:k<a.length+1):appF a.length (digF a) 1 (chop 1 [.int .u8 ((x.toNat:Nat):Int)]) k=digF (a++[x]) k:=by
 have h1:=qrl a [x] k
 rcases h1 with h1|h1
 ·rw [← h1]
  unfold appF
  by_cases h2:k<a.length
  ·rw [zb h2,zb h2]
  ·rw [za h2,za h2,zb h,zb (by simpa using h),show k - a.length=0 by omega]
   rfl
 ·simp only [xk,zam] at h1;omega
theorem joa (a:List UInt8) (x:UInt8) {c:List UInt8} (hc:a++[x]=c) {ids:List Nat} {e:TypeId} {ep:Nat}:SoLe (.row ids e 1 ep (a.length+1) (appF a.length (digF a) 1 (chop 1 [.int .u8 ((x.toNat:Nat):Int)]))) (.row ids e 1 ep c.length (digF c)):=by
 subst hc
 exact ⟨⟨rfl,rfl,rfl⟩,rfl,by simp,fun k hk=>LeL.of_eq (jbm a x k hk)⟩
theorem job (a:List UInt8) (x:UInt8) (b:List UInt8) {c:List UInt8} (hc:a++[x]++b=c) {ids:List Nat} {e:TypeId} {ep:Nat}:SoLe (.row ids e 1 ep (a.length+1+b.length) (appF (a.length+1) (appF a.length (digF a) 1 (chop 1 [.int .u8 ((x.toNat:Nat):Int)])) b.length (digF b))) (.row ids e 1 ep c.length (digF c)):=by
 subst hc
 refine ⟨⟨rfl,rfl,rfl⟩,rfl,by simp;omega,fun k hk=>LeL.of_eq ?_⟩
 have h1:=qrl (a++[x]) b k
 rw [zg,xf] at h1
 rcases h1 with h1|h1
 ·rw [← h1]
  by_cases h2:k<a.length+1
  ·exact (zb h2).trans ((jbm a x k h2).trans (zb h2).symm)
  ·have hk':k<a.length+1+b.length:=hk
   exact ((za h2).trans (zb hk')).trans ((za h2).trans (zb hk')).symm
 ·omega
def qcn (t:List UInt8) (l:List Int) (i:Nat):List UInt8:=t++Lib.itoa l.length++(l.take i).flatMap fun n=>32::Lib.itoa n
theorem jbn {n:Int} (h:-9223372036854775808≤n∧n≤9223372036854775807):(Lib.itoa n).length≤21:=Lib.itoa_length_le n h.1 h.2
theorem jbo (t:List UInt8) (l:List Int) (hl:l.length≤1000000) (hr:∀ n∈l,-9223372036854775808≤n∧n≤9223372036854775807) (i:Nat):(qcn t l i).length≤t.length+21+22 * i:=by
 have key:∀ (m:List Int) (i:Nat),(∀ n∈m,-9223372036854775808≤n∧n≤9223372036854775807)→((m.take i).flatMap fun n=>32::Lib.itoa n).length≤22 * i:=by
  intro m
  induction m with
  | nil=>intro i _;simp
  | cons x m ih=>
   intro i h
   cases i with
   | zero=>simp
   | succ i=>
    rw [List.take_succ_cons,List.flatMap_cons,zg,xk]
    have h1:=ih i (fun n hn=>h n (zu _ hn))
    have h2:=jbn (h x (zt ..))
    omega
 have h1:=key l i hr
 have h2:=jbn (n:=(l.length:Int)) ⟨by omega,by omega⟩
 unfold qcn
 simp only [zg]
 omega
theorem joc (t:List UInt8) (l:List Int) (i:Nat) (hi:i<l.length):qcn t l i++[32]++Lib.itoa (l.getD i 0)=qcn t l (i+1):=by
 have h:l.take (i+1)=l.take i++[l.getD i 0]:=by
  rw [List.take_add_one,zd,ze hi];rfl
 unfold qcn
 rw [h,List.flatMap_append]
 simp
theorem jbp (t:List UInt8) (l:List Int):qcn t l l.length++[59]=t++qdj l:=by
 unfold qcn qdj
 rw [zbc]
 simp
theorem qus (t:List UInt8) (l:List Int) (hl:l.length≤1000000) (hr:∀ n∈l,-9223372036854775808≤n∧n≤9223372036854775807) (ht:t.length≤100000000000000) :
  Trip Tryz.prog 87 [ints l,.ptr 0 0] [.box 54 [.own 1 0 0 t.length],qur t] (.tup []) [(0,.box 54 [.own 1 0 0 (t++qdj l).length]),(1,qur (t++qdj l))] 2:=by
 unfold qur
 refine zL {} 300 Tryz.func87 (fun c0 rdb mpb=>?_)
 (repeat' ((conv=>whnf);first|refine zA ?_|refine zO ?_|refine Ob.auto ?_|refine zD 300 ?_|(apply zB <;> intro hb <;> (try simp [-zd] at hb) <;> try (exfalso;omega))|refine Ob.intro ?_ ?_))
 ((conv=>whnf);refine zT 300 [1] (qum 0 t.length (digF t) l.length (by omega) (by omega) (by omega)) qa ?_)
 (repeat' ((conv=>whnf);first|refine zA ?_|refine zO ?_|refine Ob.auto ?_|refine zD 300 ?_|(apply zB <;> intro hb <;> (try simp [-zd] at hb) <;> try (exfalso;omega))|refine Ob.intro ?_ ?_))
 ((conv=>whnf);refine qo (fun _=>rfl) 300 1 (fun i:Nat=>[(11,iv i)]) (fun i=>[(0,.box 54 [.own 1 0 0 (qcn t l i).length]),(1,.row [] 5 1 0 (qcn t l i).length (digF (qcn t l i)))]) (fun i=>i≤l.length) (fun i=>l.length - i) (0) (xb _) qa ⟨⟨rfl,Le.of_eq (congrArg (AV.own 1 0 0) (by simp [qcn])),trivial⟩,jnz t (Lib.itoa l.length) (by simp [qcn]) (fun k _=>rfl),trivial⟩ (fun _=>rfl) (by kernel_rfl) ?_;(conv=>whnf))
 intro i hi
 have hle:=jbo t l hl hr i
 have hg:=fun h:i<l.length=>hr _ (qm l i 0 h)
 (repeat' ((conv=>whnf);first|refine zA ?_|refine zO ?_|refine Ob.auto ?_|(refine Ob.intro (by (first|exact ⟨by omega,by omega⟩)) ?_)|refine zD 300 ?_|(apply zB <;> intro hb <;> (try simp [-zd] at hb) <;> try (exfalso;omega))|refine Ob.intro ?_ ?_))
 ·exact ⟨⟨rfl,rfl⟩,by omega,show (_+1) * 1≤140737488355328 by omega⟩
 ·have hg:=hg hb
  ((conv=>whnf);refine zT 300 [1] (qum 0 ((qcn t l i).length+1) (appF (qcn t l i).length (digF (qcn t l i)) 1 (chop 1 [.int .u8 32])) (l.getD i 0) hg.1 hg.2 (by omega)) qa ?_)
  (repeat' ((conv=>whnf);first|refine zA ?_|refine zO ?_|refine Ob.auto ?_|refine zD 300 ?_|(apply zB <;> intro hb <;> (try simp [-zd] at hb) <;> try (exfalso;omega))|refine Ob.intro ?_ ?_))
  have hnx:=joc t l i hb
  ((conv=>whnf);refine ⟨i+1,by omega,⟨qa,⟨⟨rfl,Le.of_eq (congrArg (AV.own 1 0 0) (by rw [← hnx];simp;omega)),trivial⟩,job (qcn t l i) 32 (Lib.itoa (l.getD i 0)) hnx,trivial⟩⟩,⟨qa,qa⟩,?_⟩;(first|omega|(dsimp only;omega)|skip))
 ·exact ⟨⟨rfl,rfl⟩,by omega,show (_+1) * 1≤140737488355328 by omega⟩
 ·obtain rfl:i=l.length:=by omega
  have he:=jbp t l
  exact ⟨Le.refl _,⟨rfl,Le.of_eq (congrArg (AV.own 1 0 0) (by rw [← he];simp)),trivial⟩,joa (qcn t l l.length) 59 he,trivial⟩
structure StIn (s:Stt):Prop where
 a:∀ n∈s.at_,-9223372036854775808≤n∧n≤9223372036854775807
 v:∀ n∈s.vars,-9223372036854775808≤n∧n≤9223372036854775807
 c:∀ l∈s.chans,∀ n∈l,-9223372036854775808≤n∧n≤9223372036854775807
 h:-9223372036854775808≤s.holder∧s.holder≤9223372036854775807
 m:s.chans.length≤1000000
theorem qrm (l:List Int) (hl:l.length≤1000000) (hr:∀ n∈l,-9223372036854775808≤n∧n≤9223372036854775807):(qdj l).length≤23000000:=by
 have h1:=jbo [] l hl hr l.length
 have h2:=congrArg List.length (jbp [] l)
 simp only [zg,zam,xk,List.nil_append] at h1 h2
 omega
def keyI (s:Stt) (j:Nat):List UInt8:=qdj s.at_++qdj s.vars++(s.chans.take j).flatMap qdj
theorem joe (s:Stt) (hs:SSz s) (hi:StIn s) (j:Nat) (hj:j≤s.chans.length):(keyI s j).length≤46000000+23000000 * j:=by
 have key:∀ (m:List (List Int)) (j:Nat),(∀ l∈m,(qdj l).length≤23000000)→((m.take j).flatMap qdj).length≤23000000 * j:=by
  intro m
  induction m with
  | nil=>intro j _;simp
  | cons x m ih=>
   intro j h
   cases j with
   | zero=>simp
   | succ j=>
    rw [List.take_succ_cons,List.flatMap_cons,zg]
    have h1:=ih j (fun n hn=>h n (zu _ hn))
    have h2:=h x (zt ..)
    omega
 have h1:=key s.chans j (fun l hl=>qrm l (hs.l l hl) (hi.c l hl))
 have h2:=qrm s.at_ hs.a hi.a
 have h3:=qrm s.vars hs.v hi.v
 unfold keyI
 simp only [zg]
 omega
theorem jof (s:Stt) (j:Nat) (hj:j<s.chans.length):keyI s j++qdj (s.chans.getD j [])=keyI s (j+1):=by
 have h:s.chans.take (j+1)=s.chans.take j++[s.chans.getD j []]:=by
  rw [List.take_add_one,zd,ze hj];rfl
 unfold keyI
 rw [h,List.flatMap_append]
 simp
theorem jog (l:List UInt8):qcw l.length (digF l)=l:=by
 apply List.ext_getElem
 ·simp [qcw]
 ·intro i h1 h2
  simp only [qcw,List.getElem_map,List.getElem_range,digF,qpg]
  rw [zd,ze h2]
  simp
theorem joh (s:Stt) (hs:SSz s) (hi:StIn s):Con Tryz.prog 50 [s.av] (.str (keyT s)):=by
 refine zK {} 300 Tryz.func50 (fun c0 rdb=>?_)
 (repeat' ((conv=>whnf);first|refine zA ?_|refine zO ?_|refine Ob.auto ?_|refine zD 300 ?_|(apply zB <;> intro hb <;> (try simp [-zd] at hb) <;> try (exfalso;omega))|refine Ob.intro ?_ ?_))
 refine jbq 1 0 5 1 rfl rfl ?_
 ((conv=>whnf);refine zT 300 [1,2] (qus [] s.at_ hs.a hi.a (by simp)) (⟨⟨rfl,Le.refl _,trivial⟩,⟨⟨rfl,rfl,rfl⟩,rfl,rfl,fun k hk=>absurd hk (zj k)⟩,trivial⟩) ?_)
 (repeat' ((conv=>whnf);first|refine zA ?_|refine zO ?_|refine Ob.auto ?_|refine zD 300 ?_|(apply zB <;> intro hb <;> (try simp [-zd] at hb) <;> try (exfalso;omega))|refine Ob.intro ?_ ?_))
 ((conv=>whnf);refine zT 300 [1,2] (qus ([]++qdj s.at_) s.vars hs.v hi.v (by have:=qrm s.at_ hs.a hi.a;simp;omega)) qa ?_)
 (repeat' ((conv=>whnf);first|refine zA ?_|refine zO ?_|refine Ob.auto ?_|refine zD 300 ?_|(apply zB <;> intro hb <;> (try simp [-zd] at hb) <;> try (exfalso;omega))|refine Ob.intro ?_ ?_))
 ((conv=>whnf);refine qo (fun _=>rfl) 300 1 (fun j:Nat=>[(19,iv j)]) (fun j=>[(1,.box 54 [.own 2 0 0 (keyI s j).length]),(2,.row [] 5 1 0 (keyI s j).length (digF (keyI s j)))]) (fun j=>j≤s.chans.length) (fun j=>s.chans.length - j) (0) (xb _) qa ⟨⟨rfl,Le.of_eq (congrArg (AV.own 2 0 0) (by simp [keyI])),trivial⟩,⟨⟨rfl,rfl,rfl⟩,rfl,by simp [keyI],fun k hk=>LeL.of_eq (by simp [keyI])⟩,trivial⟩ (fun _=>rfl) (by kernel_rfl) ?_;(conv=>whnf))
 intro j hj
 have hle:=joe s hs hi j hj
 have hm:=hi.m
 (repeat' ((conv=>whnf);first|refine zA ?_|refine zO ?_|refine Ob.auto ?_|refine zD 300 ?_|(apply zB <;> intro hb <;> (try simp [-zd] at hb) <;> try (exfalso;omega))|refine Ob.intro ?_ ?_))
 ·have hjc:=qm s.chans j [] (by omega)
  ((conv=>whnf);refine zT 300 [1,2] (qus (keyI s j) (s.chans.getD j []) (hs.l _ hjc) (hi.c _ hjc) (by omega)) qa ?_)
  (repeat' ((conv=>whnf);first|refine zA ?_|refine zO ?_|refine Ob.auto ?_|refine zD 300 ?_|(apply zB <;> intro hb <;> (try simp [-zd] at hb) <;> try (exfalso;omega))|refine Ob.intro ?_ ?_))
  have hnx:=jof s j (by omega)
  ((conv=>whnf);refine ⟨j+1,by omega,⟨qa,⟨⟨rfl,Le.of_eq (congrArg (AV.own 2 0 0) (by rw [← hnx])),trivial⟩,⟨⟨rfl,rfl,rfl⟩,rfl,by rw [← hnx],fun k hk=>LeL.of_eq (by rw [← hnx])⟩,trivial⟩⟩,⟨qa,qa⟩,?_⟩;(first|omega|(dsimp only;omega)|skip))
 ·obtain rfl:j=s.chans.length:=by omega
  have hend:keyI s s.chans.length++Lib.itoa s.holder=keyT s:=by unfold keyI keyT;rw [zbc]
  have hcell:∀ k,k<(keyI s s.chans.length).length+(Lib.itoa s.holder).length→appF (keyI s s.chans.length).length (digF (keyI s s.chans.length)) (Lib.itoa s.holder).length (digF (Lib.itoa s.holder)) k=digF (keyT s) k:=fun k hk=>by
   rcases qrl (keyI s s.chans.length) (Lib.itoa s.holder) k with h|h
   ·rw [h,hend]
   ·omega
  have hlen:(keyI s s.chans.length).length+(Lib.itoa s.holder).length=(keyT s).length:=by rw [← hend,zg]
  ((conv=>whnf);refine zT 300 [2] (qum 0 (keyI s s.chans.length).length (digF (keyI s s.chans.length)) s.holder hi.h.1 hi.h.2 (by omega)) qa ?_)
  (repeat' ((conv=>whnf);first|refine zA ?_|refine zO ?_|refine Ob.auto ?_|refine zD 300 ?_|(apply zB <;> intro hb <;> (try simp [-zd] at hb) <;> try (exfalso;omega))|refine Ob.intro ?_ ?_))
  ·exact ⟨⟨rfl,rfl⟩,fun k hk=>⟨(keyT s).getD k 0,hcell k hk⟩⟩
  ·refine Le.of_eq (congrArg AV.str ?_)
   rw [← jog (keyT s),← hlen]
   exact xm fun k hk=>congrArg qpg (hcell k (List.mem_range.1 hk))
end Go.Proofs.YtikahnkkfkoglaaGreatDoor
end
section
namespace Go.Proofs.YtikahnkkfkoglaaGreatDoor
open Go Go.Sx Go.RowKit Go.St

end Go.Proofs.YtikahnkkfkoglaaGreatDoor
end
section
namespace Go.St
open Go Go.Sx
theorem joi {n n' w:Int} (h:n % 2 ^ wid w=n' % 2 ^ wid w):trim n w=trim n' w:=by
 unfold trim;rw [h]
theorem qut (n w:Int):trim (trim n w) w=trim n w:=by
 refine joi ?_
 have h2:=qgh (wid w) (qgg w).2
 have h3:=Int.emod_nonneg n (b:=2 ^ wid w) (by omega)
 have h4:=Int.emod_lt_of_pos n (b:=2 ^ wid w) (by omega)
 unfold trim
 split
 ·rw [Int.sub_emod_right];exact Int.emod_eq_of_lt h3 h4
 ·exact Int.emod_eq_of_lt h3 h4
structure Mv where
 kind:Int:=0
 proc:Int:=0
 edge:Int:=0
 chn:Int:=0
deriving DecidableEq
def Mv.cells (v:Mv):List AV:=[iv v.kind,iv v.proc,iv v.edge,iv v.chn]
def Mv.av (v:Mv):AV:=.agg v.cells
def qrn (l:List Mv):AV:=slcL Mv.cells {} 4 l
def qlen (s:Stt) (c:Int):Int:=(s.chans.getD c.toNat []).length
def room (m:Md) (c:Int):Int:=(m.chans.getD c.toNat ch0).room
def canB (m:Md) (s:Stt) (p:Nat) (e:Ed):Bool:=
  (s.at_.getD p 0 == e.frm) && (decide (e.expr<0) || (val m p s e.expr).2) &&
  (if e.act=2 then decide (qlen s e.chn<room m e.chn)
   else if e.act=3 then decide (0<qlen s e.chn)
   else if e.act=4 then !((if e.expr<0 then 0 else (val m p s e.expr).1) == 0)
   else if e.act=5 then (if e.expr<0 then 0 else (val m p s e.expr).1) == 0
   else true)
def qt (m:Md) (p:Nat):List Ed:=(m.procs.getD p pr0).edges
def qin (m:Md) (s:Stt) (p:Nat):List Mv:=((List.range (qt m p).length).filter fun i=>canB m s p ((qt m p).getD i ed0)).map fun (i:Nat)=>⟨0,p,i,0⟩
def qnq (m:Md) (s:Stt) (c:Nat):Bool:=(m.chans.getD c ch0).lossy && decide (0<qlen s c)
def qll (m:Md) (s:Stt) (c:Nat):Bool:=(m.chans.getD c ch0).copying && decide (0<qlen s c) && decide (qlen s c<room m c)
def qfn (m:Md) (s:Stt) (c:Nat):List Mv:=(if qnq m s c=true then [⟨1,0,0,c⟩] else [])++(if qll m s c=true then [⟨2,0,0,c⟩] else [])
def jb (m:Md) (s:Stt):List Mv:=
 (List.range m.procs.length).flatMap (fun (p:Nat)=>if s.holder≠-1∧s.holder≠p then [] else qin m s p) ++
 (if s.holder=-1 then (List.range m.chans.length).flatMap (qfn m s) else [])
def quu (m:Md) (s:Stt) (p:Nat):Bool:=(qt m p).any (canB m s p)
def qcb (m:Md) (s:Stt) (p:Nat) (e:Ed):Stt:=
 let n:=if e.expr<0 then 0 else (val m p s e.expr).1
 let a:={ s with at_:=s.at_.set p e.to,holder:=-1 }
 if e.act=1 then { a with vars:=s.vars.set e.var.toNat (trim n (m.vars.getD e.var.toNat vr0).width) }
 else if e.act=2 then { a with chans:=s.chans.set e.chn.toNat (s.chans.getD e.chn.toNat []++[trim n (m.chans.getD e.chn.toNat ch0).width]) }
 else if e.act=3 then { a with vars:=s.vars.set e.var.toNat (trim ((s.chans.getD e.chn.toNat []).getD 0 0) (m.vars.getD e.var.toNat vr0).width),chans:=s.chans.set e.chn.toNat ((s.chans.getD e.chn.toNat []).drop 1) }
 else a
def qgi (m:Md) (s:Stt) (p:Nat) (e:Ed):Stt:=
 { qcb m s p e with holder:=if e.keep=true∧quu m (qcb m s p e) p=true then (p:Int) else -1 }
def qac (m:Md) (s:Stt) (v:Mv):Stt:=
 if v.kind=1 then { s with chans:=s.chans.set v.chn.toNat ((s.chans.getD v.chn.toNat []).drop 1),holder:=-1 }
 else if v.kind=2 then { s with chans:=s.chans.set v.chn.toNat (s.chans.getD v.chn.toNat []++[(s.chans.getD v.chn.toNat []).getD 0 0]),holder:=-1 }
 else qgi m s v.proc.toNat ((qt m v.proc.toNat).getD v.edge.toNat ed0)
def quv (m:Md) (s:Stt):Bool:=(List.range m.procs.length).all fun p=>(m.procs.getD p pr0).rest.getD (s.at_.getD p 0).toNat false
def quw (m:Md) (s:Stt):Bool:=(jb m s).isEmpty && !quv m s
def badB (m:Md) (s:Stt):Bool:=!qnl m s || m.dead && quw m s
def walkL (w:Int→Int × Bool) (len:Int):List Int→Int→Int × Bool
 | [],next=>(next,true)
 | k::ks,next=>if k≠next∨len≤next then (next,false) else if (w next).2=false then ((w next).1,false) else walkL w len ks (w next).1
def walkF (l:List Nd):Nat→Int→Int × Bool
 | 0,at_=>(at_,false)
 | f+1,at_=>walkL (walkF l f) l.length (l.getD at_.toNat nd0).kids (at_+1)
theorem qet (l:List Nd) (w:Int→Int × Bool)
  (hw:∀ a n,0≤a→w a=(n,true)→(a<n∧(a<l.length→n≤l.length))∧∀ j:Nat,a≤j→(j:Int)<n→∀ k∈(l.getD j nd0).kids,(j:Int)<k∧k<n) :
  ∀ (ks:List Int) (next n:Int),0≤next→walkL w l.length ks next=(n,true)→
   (next≤n∧(next≤l.length→n≤l.length))∧(∀ k∈ks,next≤k∧k<n)∧∀ j:Nat,next≤j→(j:Int)<n→∀ k∈(l.getD j nd0).kids,(j:Int)<k∧k<n
 | [],next,n,_,h=>by
  simp only [walkL,Prod.mk.injEq,and_true] at h
  subst h
  exact ⟨⟨zw _,id⟩,(fun k hk=>by cases hk),fun j h1 h2=>by omega⟩
 | k::ks,next,n,h0,h=>by
  rw [walkL] at h
  split at h
  ·simp at h
  ·rename_i hk
   split at h
   ·simp at h
   ·rename_i hb
    have hwn:w next=((w next).1,true):=by
     cases hx:w next with
     | mk a b=>rw [hx] at hb;cases b <;> simp_all
    obtain ⟨h1,h2⟩:=hw next _ h0 hwn
    have hk1:k=next∧next<l.length:=by omega
    obtain ⟨h3,h4,h5⟩:=qet l w hw ks (w next).1 n (by omega) h
    refine ⟨⟨by omega,fun _=>h3.2 (h1.2 hk1.2)⟩,fun q hq=>?_,fun j hj1 hj2 q hq=>?_⟩
    ·rcases List.mem_cons.1 hq with rfl|hq
     ·omega
     ·have:=h4 q hq;omega
    ·by_cases hj:(j:Int)<(w next).1
     ·have:=h2 j hj1 hj q hq;omega
     ·exact h5 j (by omega) hj2 q hq
theorem qae (l:List Nd):∀ (f:Nat) (a n:Int),0≤a→walkF l f a=(n,true)→(a<n∧(a<l.length→n≤l.length))∧∀ j:Nat,a≤j→(j:Int)<n→∀ k∈(l.getD j nd0).kids,(j:Int)<k∧k<n
 | 0,a,n,_,h=>by simp [walkF] at h
 | f+1,a,n,h0,h=>by
  rw [walkF] at h
  obtain ⟨h1,h2,h3⟩:=qet l (walkF l f) (qae l f) _ _ n (by omega) h
  refine ⟨⟨by omega,fun ha=>h1.2 (by omega)⟩,fun j hj1 hj2 k hk=>?_⟩
  by_cases hj:(j:Int)=a
  ·have:a.toNat=j:=by omega
   rw [this] at h2
   have:=h2 k hk
   omega
  ·exact h3 j (by omega) hj2 k hk
theorem jbr (w:Int→Int × Bool) (len:Int) (hw:∀ a,0≤a→a≤(w a).1):∀ (ks:List Int) (next:Int),0≤next→next≤(walkL w len ks next).1
 | [],next,_=>zw _
 | k::ks,next,h=>by
  rw [walkL]
  have:=hw next h
  split
  ·exact zw _
  split
  ·exact this
  ·have:=jbr w len hw ks (w next).1 (by omega);omega
theorem jbs (l:List Nd):∀ (f:Nat) (a:Int),0≤a→a≤(walkF l f a).1
 | 0,a,_=>zw _
 | f+1,a,h=>by
  rw [walkF]
  have:=jbr (walkF l f) l.length (jbs l f) (l.getD a.toNat nd0).kids (a+1) (by omega)
  omega
theorem qhj {α:Type} (l:List α) (i:Nat) (d:α) (h:i<l.length):l.drop i=l.getD i d::l.drop (i+1):=by
 rw [zav h,List.getD_eq_getElem?_getD,ze h];rfl
def qfo (l:List Nd):Bool:=
 !(decide (l.length=0) || decide (800<l.length) || (l.getD 0 nd0).kind != 0) && ((walkF l 20 0).2 && (walkF l 20 0).1 == l.length) && l.all (nodeB l)
structure TreeOk (l:List Nd):Prop where
 len:1≤l.length∧l.length≤800
 root:(l.getD 0 nd0).kind=0
 kids:∀ j:Nat,j<l.length→∀ k∈(l.getD j nd0).kids,(j:Int)<k∧k<l.length
 node:∀ j:Nat,j<l.length→nodeB l (l.getD j nd0)=true
theorem joj {l:List Nd} (h:qfo l=true):TreeOk l:=by
 unfold qfo at h
 simp only [zf,zad,xy,decide_eq_false_iff_not,bne_eq_false_iff_eq,xx] at h
 obtain ⟨⟨⟨⟨h1,h2⟩,h3⟩,h4,h5⟩,h6⟩:=h
 have hw:walkF l 20 0=((l.length:Int),true):=by rw [← h5];exact Prod.ext rfl h4
 obtain ⟨_,hk⟩:=qae l 20 0 _ (zw _) hw
 exact ⟨by omega,h3,fun j hj k hkk=>hk j (by omega) (by omega) k hkk,fun j hj=>(qli _ _ nd0).1 h6 j hj⟩
end Go.St
end
