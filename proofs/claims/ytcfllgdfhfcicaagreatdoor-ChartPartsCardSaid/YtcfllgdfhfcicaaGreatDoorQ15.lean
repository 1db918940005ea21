/- Some texts of the library, one behind the other. -/
import Derived.Test.YtcfllgdfhfcicaaGreatDoorQ6
import Derived.Test.YtcfllgdfhfcicaaGreatDoorQ4
import Derived.Test.YtcfllgdfhfcicaaGreatDoorQ2
set_option linter.unusedSimpArgs false
set_option linter.unusedVariables false
section
namespace Go.Proofs.YtcfllgdfhfcicaaGreatDoor
open Go Go.Sx Go.RowKit Go.St
set_option maxRecDepth 100000
set_option maxHeartbeats 4000000
theorem jsc (l:List Nd) (n:Nd) (hn:NdSz n) (hk:∀ k∈n.kids,0≤k∧k<l.length):Con Tryz.prog 46 [js l,.agg n.cells] (.bool (nodeB l n)):=by
 have hl:=hn.lk
 refine zK {} 600 Tryz.func46 (fun c0 rdb=>?_)
 (repeat' ((conv=>whnf);first|refine Ob.auto ?_|(refine Ob.intro (by ((intro h;refine ⟨h,?_⟩;simp only [zf,numsB,xz] at h;omega))) ?_)|refine zC 600 (jcm n hn _) ?_|refine zG 600 (fun hg=>jcl n hn _ _) ?_|refine zG 600 (fun hg=>jcn l n hn hk 0 (by omega) _ _) ?_|refine zG 600 (fun hg=>jqf l n hn hk _ _ _ (by omega)) ?_|refine zG 600 (fun hg=>qvt _ _ _) ?_|(apply zB <;> intro hb <;> (try simp [-List.getD_eq_getElem?_getD] at hb) <;> try (exfalso;omega))))
 all_goals first
  | (refine Le.of_eq (congrArg AV.bool ?_);rw [nodeB];((repeat (first|rw [zb (by omega)]|rw [za (by omega)])) <;> rfl))
  | skip
 ((conv=>whnf);refine qo (fun _=>rfl) 600 1 (fun i:Nat=>[(6,iv i)]) (fun _=>[]) (fun i=>i≤n.kids.length∧∀ j,j<i→kidK l n j=2) (fun i=>n.kids.length - i) (0) (⟨by omega,fun j hj=>absurd hj (zh j)⟩) qa qa (fun _=>rfl) (by kernel_rfl) ?_;(conv=>whnf))
 intro i hi
 (repeat' ((conv=>whnf);first|refine Ob.auto ?_|(refine qzz (fun _=>rfl) 600 (fun hg=>qvu l n i (by omega) (by first|omega|(have:=zi hg;omega)) hk) (by rfl) qhu (by kernel_rfl) ?_)|refine zC 600 (jcm n hn _) ?_|refine zG 600 (fun hg=>jcl n hn _ _) ?_|refine zG 600 (fun hg=>jcn l n hn hk i (by omega) _ _) ?_|(apply zB <;> intro hb <;> (try simp [-List.getD_eq_getElem?_getD] at hb) <;> try (exfalso;omega))))
 ·((conv=>whnf);refine ⟨i+1,⟨by omega,qan hi.2 hb.2⟩,⟨qa,qa⟩,⟨qa,qa⟩,?_⟩;(first|omega|(dsimp only;omega)|skip))
 ·rename_i h3
  refine Le.of_eq (congrArg AV.bool ?_)
  rw [nodeB,za (by omega),za (by omega),za (by omega),zb (by omega),jbv l n i hi.1 hi.2 (by omega)]
end Go.Proofs.YtcfllgdfhfcicaaGreatDoor
end
section
namespace Go.St
open Go Go.Sx
def walkL (w:Int→Int × Bool) (len:Int):List Int→Int→Int × Bool
 | [],next=>(next,true)
 | k::ks,next=>if k≠next∨len≤next then (next,false) else if (w next).2=false then ((w next).1,false) else walkL w len ks (w next).1
def walkF (l:List Nd):Nat→Int→Int × Bool
 | 0,at_=>(at_,false)
 | f+1,at_=>walkL (walkF l f) l.length (l.getD at_.toNat nd0).kids (at_+1)
theorem qfh (l:List Nd) (w:Int→Int × Bool)
  (hw:∀ a n,0≤a→w a=(n,true)→(a<n∧(a<l.length→n≤l.length))∧∀ j:Nat,a≤j→(j:Int)<n→∀ k∈(l.getD j nd0).kids,(j:Int)<k∧k<n) :
  ∀ (ks:List Int) (next n:Int),0≤next→walkL w l.length ks next=(n,true)→
   (next≤n∧(next≤l.length→n≤l.length))∧(∀ k∈ks,next≤k∧k<n)∧∀ j:Nat,next≤j→(j:Int)<n→∀ k∈(l.getD j nd0).kids,(j:Int)<k∧k<n
 | [],next,n,_,h=>by
  simp only [walkL,Prod.mk.injEq,and_true] at h
  subst h
  exact ⟨⟨xi _,id⟩,(fun k hk=>by cases hk),fun j h1 h2=>by omega⟩
 | k::ks,next,n,h0,h=>by
  rw [walkL] at h
  split at h
  ·simp at h
  ·rename_i hk
   split at h
   ·simp at h
   ·rename_i hb
    have hwn:w next=((w next).1,true):=by
     cases hx:w next with
     | mk a b=>rw [hx] at hb;cases b <;> simp_all
    obtain ⟨h1,h2⟩:=hw next _ h0 hwn
    have hk1:k=next∧next<l.length:=by omega
    obtain ⟨h3,h4,h5⟩:=qfh l w hw ks (w next).1 n (by omega) h
    refine ⟨⟨by omega,fun _=>h3.2 (h1.2 hk1.2)⟩,fun q hq=>?_,fun j hj1 hj2 q hq=>?_⟩
    ·rcases List.mem_cons.1 hq with rfl|hq
     ·omega
     ·have:=h4 q hq;omega
    ·by_cases hj:(j:Int)<(w next).1
     ·have:=h2 j hj1 hj q hq;omega
     ·exact h5 j (by omega) hj2 q hq
theorem qak (l:List Nd):∀ (f:Nat) (a n:Int),0≤a→walkF l f a=(n,true)→(a<n∧(a<l.length→n≤l.length))∧∀ j:Nat,a≤j→(j:Int)<n→∀ k∈(l.getD j nd0).kids,(j:Int)<k∧k<n
 | 0,a,n,_,h=>by simp [walkF] at h
 | f+1,a,n,h0,h=>by
  rw [walkF] at h
  obtain ⟨h1,h2,h3⟩:=qfh l (walkF l f) (qak l f) _ _ n (by omega) h
  refine ⟨⟨by omega,fun ha=>h1.2 (by omega)⟩,fun j hj1 hj2 k hk=>?_⟩
  by_cases hj:(j:Int)=a
  ·have:a.toNat=j:=by omega
   rw [this] at h2
   have:=h2 k hk
   omega
  ·exact h3 j (by omega) hj2 k hk
theorem jdv (w:Int→Int × Bool) (len:Int) (hw:∀ a,0≤a→a≤(w a).1):∀ (ks:List Int) (next:Int),0≤next→next≤(walkL w len ks next).1
 | [],next,_=>xi _
 | k::ks,next,h=>by
  rw [walkL]
  have:=hw next h
  split
  ·exact xi _
  split
  ·exact this
  ·have:=jdv w len hw ks (w next).1 (by omega);omega
theorem jdw (l:List Nd):∀ (f:Nat) (a:Int),0≤a→a≤(walkF l f a).1
 | 0,a,_=>xi _
 | f+1,a,h=>by
  rw [walkF]
  have:=jdv (walkF l f) l.length (jdw l f) (l.getD a.toNat nd0).kids (a+1) (by omega)
  omega
theorem qks {α:Type} (l:List α) (i:Nat) (d:α) (h:i<l.length):l.drop i=l.getD i d::l.drop (i+1):=by
 rw [zbb h,List.getD_eq_getElem?_getD,ze h];rfl
def rightB (l:List Nd):Bool:=
 !(decide (l.length=0) || decide (800<l.length) || (l.getD 0 nd0).kind != 0) && ((walkF l 20 0).2 && (walkF l 20 0).1 == l.length) && l.all (nodeB l)
structure TreeOk (l:List Nd):Prop where
 len:1≤l.length∧l.length≤800
 root:(l.getD 0 nd0).kind=0
 kids:∀ j:Nat,j<l.length→∀ k∈(l.getD j nd0).kids,(j:Int)<k∧k<l.length
 node:∀ j:Nat,j<l.length→nodeB l (l.getD j nd0)=true
theorem qwj {l:List Nd} (h:rightB l=true):TreeOk l:=by
 unfold rightB at h
 simp only [zf,zaf,xw,decide_eq_false_iff_not,bne_eq_false_iff_eq,xz] at h
 obtain ⟨⟨⟨⟨h1,h2⟩,h3⟩,h4,h5⟩,h6⟩:=h
 have hw:walkF l 20 0=((l.length:Int),true):=by rw [← h5];exact Prod.ext rfl h4
 obtain ⟨_,hk⟩:=qak l 20 0 _ (xi _) hw
 exact ⟨by omega,h3,fun j hj k hkk=>hk j (by omega) (by omega) k hkk,fun j hj=>(qlv _ _ nd0).1 h6 j hj⟩
end Go.St
end
section
namespace Go.Proofs.YtcfllgdfhfcicaaGreatDoor
open List renaming getD_eq_getElem?_getD → zd
open Go Go.Sx Go.RowKit Go.St
set_option maxRecDepth 100000
set_option maxHeartbeats 4000000
theorem jsd (l:List Nd) (hl:l.length≤9223372036854775807) (hz:∀ n∈l,NdSz n):∀ (f:Nat) (a deep:Int),0≤a→a<l.length→deep+f=21→f≤21→Con Tryz.prog 45 [js l,iv a,iv deep] (.tup [iv (walkF l f a).1,.bool (walkF l f a).2]):=by
 intro f
 induction f with
 | zero=>
  intro a deep h0 h1 hd hf
  refine zK {} 300 Tryz.func45 (fun c0 rdb=>?_)
  (repeat' ((conv=>whnf);first|refine Ob.auto ?_|(apply zB <;> intro hb <;> (try simp [-zd] at hb) <;> try (exfalso;omega))))
  exact Le.refl _
 | succ f ih=>
  intro a deep h0 h1 hd hf
  have hza:=hz _ (qe l a.toNat nd0 (by omega))
  have hkl:=hza.lk
  refine zK {} 300 Tryz.func45 (fun c0 rdb=>?_)
  (repeat' ((conv=>whnf);first|refine Ob.auto ?_|(apply zB <;> intro hb <;> (try simp [-zd] at hb) <;> try (exfalso;omega))))
  ((conv=>whnf);refine qo (fun _=>rfl) 300 1 (fun g:Nat × Int=>[(9,iv g.1),(8,iv g.2)]) (fun _=>[]) (fun g=>(g.1≤(l.getD a.toNat nd0).kids.length∧0≤g.2)∧walkF l (f+1) a=walkL (walkF l f) l.length ((l.getD a.toNat nd0).kids.drop g.1) g.2) (fun g=>(l.getD a.toNat nd0).kids.length - g.1) ((0,a+1)) (⟨by simp;omega,rfl⟩) qa qa (fun _=>rfl) (by kernel_rfl) ?_;(conv=>whnf))
  rintro ⟨i,next⟩ ⟨⟨hi,hn0⟩,hw⟩
  simp only at hi hw hn0
  have hdr:=fun h=>qks (l.getD a.toNat nd0).kids i 0 h
  have hge:=jdw l f next hn0
  (repeat' ((conv=>whnf);first|refine Ob.auto ?_|refine zC 300 (ih next (deep+1) (by omega) (by omega) (by omega) (by omega)) ?_|(apply zB <;> intro hb <;> (try simp [-zd] at hb) <;> try (exfalso;omega))))
  ·rw [hdr (by omega),walkL,zb (by omega)] at hw
   rw [hw];exact Le.refl _
  ·rename_i hb1
   rw [hdr (by omega),walkL,za (by omega),zb hb] at hw
   rw [hw,hb];exact Le.refl _
  ·rename_i hb1
   ((conv=>whnf);refine ⟨(i+1,(walkF l f next).1),⟨⟨by simp only;omega,by simp only;omega⟩,by rw [hdr (by omega),walkL,za (by omega),za (by rw [hb];decide)] at hw;exact hw⟩,⟨qa,qa⟩,⟨qa,qa⟩,?_⟩;(first|omega|(dsimp only;omega)|skip))
  ·have:i=(l.getD a.toNat nd0).kids.length:=by omega
   rw [this,List.drop_length,walkL] at hw
   rw [hw];exact Le.refl _
theorem jse (l:List Nd) (hl:l.length≤9223372036854775807) (hz:∀ n∈l,NdSz n):Con Tryz.prog 22 [js l] (.bool (rightB l)):=by
 by_cases h0:(decide (l.length=0) || decide (800<l.length) || (l.getD 0 nd0).kind != 0)=true
 ·have hr:rightB l=false:=by unfold rightB;rw [h0];rfl
  rw [hr]
  simp only [zad,xd,bne_iff_ne,ne_eq] at h0
  refine zK {} 300 Tryz.func22 (fun c0 rdb=>?_)
  (repeat' ((conv=>whnf);first|refine Ob.auto ?_|(refine Ob.intro (by ((intro h;simp at h;have:=List.length_pos_iff.2 h.1;exact ⟨by simp [h],by omega,by omega⟩))) ?_)|(apply zB <;> intro hb <;> (try simp [-zd] at hb) <;> try (exfalso;omega))))
  ·exact Le.refl _
  ·exfalso
   have:=List.length_pos_iff.2 hb.1.1
   omega
 ·have h0':(decide (l.length=0) || decide (800<l.length) || (l.getD 0 nd0).kind != 0)=false:=by simpa using h0
  simp only [zad,xd,bne_iff_ne,ne_eq,not_or,Decidable.not_not] at h0
  have hr:rightB l=(((walkF l 20 0).2 && (walkF l 20 0).1 == l.length) && l.all (nodeB l)):=by unfold rightB;rw [h0'];rfl
  rw [hr]
  refine zK {} 300 Tryz.func22 (fun c0 rdb=>?_)
  (repeat' ((conv=>whnf);first|refine Ob.auto ?_|refine zC 300 (jsd l hl hz 20 0 1 (by omega) (by omega) (by omega) (by omega)) ?_|(apply zB <;> intro hb <;> (try simp [-zd] at hb) <;> try (exfalso;omega))))
  ·exfalso;rcases hb with (hb|hb)|hb
   ·rw [hb] at h0;simp at h0
   ·omega
   ·omega
  ·refine Le.of_eq (congrArg AV.bool ?_)
   rcases hb with hb|hb
   ·rw [hb];rfl
   ·rw [show ((walkF l 20 0).1 == (l.length:Int))=false from beq_eq_false_iff_ne.2 hb,Bool.and_false];rfl
  ·have hw:((walkF l 20 0).2 && (walkF l 20 0).1 == (l.length:Int))=true:=by rw [hb.1,hb.2];simp
   have hk:∀ j:Nat,j<l.length→∀ k∈(l.getD j nd0).kids,0≤k∧k<l.length:=fun j hj k hk=>by
    have:=(qak l 20 0 l.length (xi _) (Prod.ext hb.2 hb.1)).2 j (by omega) (by omega) k hk
    omega
   ((conv=>whnf);refine qo (fun _=>rfl) 300 1 (fun i:Nat=>[(5,iv i)]) (fun _=>[]) (fun i=>i≤l.length∧∀ j,j<i→nodeB l (l.getD j nd0)=true) (fun i=>l.length - i) (0) (⟨by omega,fun j hj=>absurd hj (zh j)⟩) qa qa (fun _=>rfl) (by kernel_rfl) ?_;(conv=>whnf))
   intro i hi
   (repeat' ((conv=>whnf);first|refine Ob.auto ?_|refine zC 300 (jsc l (l.getD i nd0) (hz _ (qe l i nd0 (by omega))) (hk i (by omega))) ?_|(apply zB <;> intro hb <;> (try simp [-zd] at hb) <;> try (exfalso;omega))))
   ·refine Le.of_eq (congrArg AV.bool ?_)
    rw [hw,qvh (q:=nodeB l) nd0 (j:=i) (by omega) hb];rfl
   ·((conv=>whnf);refine ⟨i+1,⟨by omega,qan hi.2 hb⟩,⟨qa,qa⟩,⟨qa,qa⟩,?_⟩;(first|omega|(dsimp only;omega)|skip))
   ·refine Le.of_eq (congrArg AV.bool ?_)
    rw [hw,qvg (q:=nodeB l) nd0 (fun j hj=>hi.2 j (by omega))];rfl
def qjf:List Nd→Int→Int
 | [],n=>n
 | x::r,n=>if n≤1500 then qjf r (IntKind.i64.wrap (IntKind.i64.wrap (IntKind.i64.wrap (n+x.words.length)+x.nums.length)+x.kids.length)) else n
theorem jsf (l:List Nd) (hl:l.length≤9223372036854775807):Con Tryz.prog 21 [js l] (.bool (decide (qjf l l.length≤1500))):=by
 refine zK {wraps:=[18,19,20,21,22,23,24,25,26,27,28,29,30,31,32,33,34,35,36,37,38]} 300 Tryz.func21 (fun c0 rdb=>?_)
 ((conv=>whnf);refine qo (fun _=>rfl) 300 1 (fun g:Nat × Int=>[(4,iv g.1),(3,iv g.2)]) (fun _=>[]) (fun g=>g.1≤l.length∧qjf l l.length=qjf (l.drop g.1) g.2) (fun g=>l.length - g.1) ((0,(l.length:Int))) (⟨by simp,rfl⟩) qa qa (fun _=>rfl) (by kernel_rfl) ?_;(conv=>whnf))
 rintro ⟨i,n⟩ ⟨hi,hs⟩
 simp only at hi hs
 (repeat' ((conv=>whnf);first|refine zO ?_|refine Ob.auto ?_|(refine zP 300 ?_)|(apply zB <;> intro hb <;> (try simp [-zd] at hb) <;> try (exfalso;omega))))
 ·rw [qks l i nd0 (by omega),qjf,zb (by omega)] at hs
  ((conv=>whnf);refine ⟨(i+1,IntKind.i64.wrap (IntKind.i64.wrap (IntKind.i64.wrap (n+(l.getD i nd0).words.length)+(l.getD i nd0).nums.length)+(l.getD i nd0).kids.length)),⟨by simp only;omega,hs⟩,⟨qa,qa⟩,⟨qa,qa⟩,?_⟩;(first|omega|(dsimp only;omega)|skip))
 ·refine Le.of_eq (congrArg AV.bool ?_)
  by_cases hl:i<l.length
  ·rw [qks l i nd0 (by omega),qjf,za (by omega)] at hs
   rw [hs]
  ·obtain rfl:i=l.length:=by omega
   rw [List.drop_length,qjf] at hs
   rw [hs]
end Go.Proofs.YtcfllgdfhfcicaaGreatDoor
end
section
namespace Go.St
open Go Go.Sx
def qi (l:List Nd) (i:Int):Int:=(l.getD i.toNat nd0).kind
def qbb (at_:Int):List Int→Int→Int
 | [],o=>o
 | k::r,o=>qbb at_ r (if k≤at_ then k else o)
def itemF (l:List Nd) (at_:Int):Int:=qbb at_ (l.getD 0 nd0).kids 0
def inF (l:List (List UInt8)) (s:List UInt8):Bool:=l.any (· == s)
def qbx (n:Nd):List UInt8:=n.words.getD 0 []
def qjg (l:List Nd) (item kind:Int) (out:List (List UInt8)) (i:Nat):List (List UInt8):=
 if (l.getD i nd0).kind=kind then
  (if (itemF l i == (i:Int) || itemF l i == item)=true then (if inF out (qbx (l.getD i nd0))=true then out else out++[qbx (l.getD i nd0)]) else out)
 else out
def qfi (l:List Nd) (item kind:Int) (i:Nat):List (List UInt8):=(List.range i).foldl (qjg l item kind) []
def qdb (l:List Nd) (at_:Int) (kind:Int):List (List UInt8):=qfi l (itemF l at_) kind at_.toNat
def badF (l:List Nd) (i:Nat):Bool:=
 if (l.getD i nd0).kind=1∨(l.getD i nd0).kind=2∨(l.getD i nd0).kind=3 then
  inF (qdb l i 1) (qbx (l.getD i nd0)) || inF (qdb l i 2) (qbx (l.getD i nd0)) || inF (qdb l i 3) (qbx (l.getD i nd0))
 else if (l.getD i nd0).kind=6∨(l.getD i nd0).kind=18 then !inF (qdb l i 2) (qbx (l.getD i nd0))
 else if (l.getD i nd0).kind=7∨(l.getD i nd0).kind=19 then !inF (qdb l i 1) (qbx (l.getD i nd0))
 else if (l.getD i nd0).kind=8 then !inF (qdb l i 1) (qbx (l.getD i nd0)) || !inF (qdb l i 2) ((l.getD i nd0).words.getD 1 [])
 else false
def qic (l:List Nd):Int × Int:=if Go.St.idx (badF l) (List.range l.length)<0 then (0,0) else (20,(l.getD (Go.St.idx (badF l) (List.range l.length)).toNat nd0).at_)
def qfy (l:List Nd) (at_:Int):Int:=if qi l (itemF l at_)=3 then (l.getD (itemF l at_).toNat nd0).nums.getD 0 0 else 1
def qid (l:List Nd) (kind:Int) (n:Int) (i:Nat):Int:=
 if n<100 then (if (l.getD i nd0).kind=kind then (if kind=1 then n+1 else n+min (qfy l i) 100) else n) else n
def sumF (l:List Nd) (kind:Int) (i:Nat):Int:=(List.range i).foldl (qid l kind) 0
def qok (l:List Nd) (at_:Int):Nat→Int→Bool
 | 0,_=>false
 | f+1,a=>(l.getD a.toNat nd0).kids.any fun k=>k == at_ || qok l at_ f k
def qbj (l:List Nd) (i:Nat):Int:=
 if (l.getD i nd0).kind=1 then
  (if ((l.getD i nd0).nums.getD 0 0<1∨3<(l.getD i nd0).nums.getD 0 0)∨((l.getD i nd0).nums.getD 1 0<1∨8<(l.getD i nd0).nums.getD 1 0)∨3<sumF l 1 (i+1) then 22 else 0)
 else if (l.getD i nd0).kind=2 then
  (if ((l.getD i nd0).nums.getD 0 0<1∨8<(l.getD i nd0).nums.getD 0 0)∨trim ((l.getD i nd0).nums.getD 1 0) ((l.getD i nd0).nums.getD 0 0)≠(l.getD i nd0).nums.getD 1 0∨8<sumF l 2 (i+1) then 22 else 0)
 else if (l.getD i nd0).kind=3 then (if (l.getD i nd0).nums.getD 0 0<1∨4<sumF l 3 (i+1) then 22 else 0)
 else if (l.getD i nd0).kind=13 then (if ((List.range i).any fun j=>(l.getD j nd0).kind == 13 && qok l i l.length j)=true then 21 else 0)
 else if (l.getD i nd0).kind=17 then (if 127<(l.getD i nd0).nums.getD 0 0 then 22 else 0)
 else 0
def qbp (l:List Nd):Int × Int:=
 if (qic l).1≠0 then qic l
 else if Go.St.idx (fun i=>qbj l i != 0) (List.range l.length)<0 then (0,0)
 else (qbj l (Go.St.idx (fun i=>qbj l i != 0) (List.range l.length)).toNat,(l.getD (Go.St.idx (fun i=>qbj l i != 0) (List.range l.length)).toNat nd0).at_)
def qg (p:Pr):Pr:={ p with places:=p.places+1,rest:=p.rest++[false] }
def putF (p:Pr) (frm to act node expr v c:Int):Pr:={ p with edges:=p.edges++[⟨frm,to,act,expr,v,c,false,node⟩] }
def qco (l:List (List UInt8)) (s:List UInt8):Int:=if Go.St.idx (· == s) l<0 then 0 else Go.St.idx (· == s) l
def jx (p:Pr) (at_ idle:Int):Pr:={ p with rest:=if idle=1 then p.rest.set at_.toNat true else p.rest }
def qfj (l:List Ch) (s:List UInt8):Int:=if Go.St.idx (fun c:Ch=>c.name == s) l<0 then 0 else Go.St.idx (fun c:Ch=>c.name == s) l
def qay (st:Pr→Int→Int→Int→Pr) (node:Int):Pr→List Int→Int→Int→Pr
 | p,[],frm,to=>putF p frm to 0 node (-1) (-1) (-1)
 | p,[k],frm,to=>st p k frm to
 | p,k::k'::r,frm,to=>qay st node (st (qg p) k frm p.places) (k'::r) p.places to
def qhd (l:List Nd) (blk:Pr→Int→Int→Int→Pr) (frm to:Int) (p:Pr) (k:Int):Pr:=
 if (l.getD k.toNat nd0).kids.length≠0∧qi l ((l.getD k.toNat nd0).kids.getD 0 0)=12 then
  blk (putF (qg p) frm p.places 0 k (-1) (-1) (-1)) k p.places to
 else blk p k frm to
def qew (to:Int) (e:Ed):Ed:={ e with keep:=e.to != to && e.to != 1 }
def qc (l:List Nd) (cs:List Ch):Nat→Pr→Int→Int→Int→Pr
  | 0,p,_,_,_=>p
  | f+1,p,a,frm,to=>
    let n:=l.getD a.toNat nd0
    let blk:=fun (p:Pr) (b frm to:Int)=>qay (qc l cs f) b p (l.getD b.toNat nd0).kids frm to
    if n.kind=6 then putF p frm to 1 a (n.kids.getD 0 0) (p.vars.getD (qco p.names (n.words.getD 0 [])).toNat 0) (-1)
    else if n.kind=7 then putF p frm to 2 a (n.kids.getD 0 0) (-1) (qfj cs (n.words.getD 0 []))
    else if n.kind=8 then putF (jx p frm (n.nums.getD 0 0)) frm to 3 a (-1) (p.vars.getD (qco p.names (n.words.getD 1 [])).toNat 0) (qfj cs (n.words.getD 0 []))
    else if n.kind=9 then putF (jx p frm (n.nums.getD 0 0)) frm to 4 a (n.kids.getD 0 0) (-1) (-1)
    else if n.kind=10 then n.kids.foldl (qhd l blk frm to) (jx p frm (n.nums.getD 0 0))
    else if n.kind=11 then
      (let q:=blk (putF (qg p) frm p.places 4 a (n.kids.getD 0 0) (-1) (-1)) (n.kids.getD 1 0) p.places to
       if n.kids.length=2 then putF q frm to 5 a (n.kids.getD 0 0) (-1) (-1)
       else blk (putF (qg q) frm q.places 5 a (n.kids.getD 0 0) (-1) (-1)) (n.kids.getD 2 0) q.places to)
    else if n.kind=12 then blk (putF (putF (qg p) frm p.places 4 a (n.kids.getD 0 0) (-1) (-1)) frm to 5 a (n.kids.getD 0 0) (-1) (-1)) (n.kids.getD 1 0) p.places frm
    else if n.kind=13 then
      (let q:=blk p (n.kids.getD 0 0) frm to
       { q with edges:=q.edges.take p.edges.length++(q.edges.drop p.edges.length).map (qew to) })
    else if n.kind=15 then putF p frm 1 0 a (-1) (-1) (-1)
    else putF p frm to 0 a (-1) (-1) (-1)
def qej (l:List Nd) (m:Md) (k:Int):Md:=
 let n:=l.getD k.toNat nd0
 if n.kind=1 then { m with chans:=m.chans++[⟨n.words.getD 0 [],n.nums.getD 0 0,n.nums.getD 1 0,n.nums.getD 2 0 == 1,n.nums.getD 3 0 == 1⟩] }
 else if n.kind=2 then { m with vars:=m.vars++[⟨n.words.getD 0 [],n.nums.getD 0 0,n.nums.getD 1 0⟩] }
 else if n.kind=4 then { m with safe:=m.safe++[n.kids.getD 0 0] }
 else if n.kind=5 then { m with dead:=true }
 else m
def qcp (l:List Nd) (x:Pr × List Vr) (k:Int):Pr × List Vr:=
 let n:=l.getD k.toNat nd0
 ({ x.1 with locals:=x.1.locals++[(x.2.length:Int)],names:=x.1.names++[n.words.getD 0 []],vars:=x.1.vars++[(x.2.length:Int)] },x.2++[⟨n.words.getD 0 [],n.nums.getD 0 0,n.nums.getD 1 0⟩])
def qfz (l:List Nd) (vs:List Vr) (seen:Nat) (k c:Int):Pr:=
 { name:=(l.getD k.toNat nd0).words.getD 0 [],copy:=c,places:=2,rest:=[false,true],names:=(vs.take seen).map (·.name),vars:=(List.range seen).map fun (i:Nat)=>(i:Int),edges:=[] }
def qby (l:List Nd) (cs:List Ch) (k:Int) (seen:Nat) (x:List Vr × List Pr) (c:Nat):List Vr × List Pr:=
 let n:=l.getD k.toNat nd0
 let y:=(n.kids.take (varsN l n)).foldl (qcp l) (qfz l x.1 seen k c,x.1)
 (y.2,x.2++[qay (qc l cs 20) k y.1 (n.kids.drop (varsN l n)) 0 1])
def qbz (l:List Nd) (cs:List Ch) (x:Nat × List Vr × List Pr) (k:Int):Nat × List Vr × List Pr:=
 let n:=l.getD k.toNat nd0
 let seen:=if n.kind=2 then x.1+1 else x.1
 (seen,if n.kind=3 then (List.range (n.nums.getD 0 0).toNat).foldl (qby l cs k seen) x.2 else x.2)
def qbs (l:List Nd):Md:=(l.getD 0 nd0).kids.foldl (qej l) { tree:=l }
def qcq (l:List Nd):Md:=
 let m:=qbs l
 let y:=(l.getD 0 nd0).kids.foldl (qbz l m.chans) (0,m.vars,[])
 { m with globals:=m.vars.length,vars:=y.2.1,procs:=y.2.2 }
end Go.St
end
