/- Some texts of the library, one behind the other. -/
import Derived.Test.YtcfllgdfhfcicaaGreatDoorQ37
import Derived.Test.YtcfllgdfhfcicaaGreatDoorQ38
import Derived.Test.YtcfllgdfhfcicaaGreatDoorQ26
import Derived.Test.YtcfllgdfhfcicaaGreatDoorQ24
import Derived.Test.YtcfllgdfhfcicaaGreatDoorQ4
import Derived.Test.YtcfllgdfhfcicaaGreatDoorQ2
section
namespace Go.Proofs.YtcfllgdfhfcicaaGreatDoor
open List renaming getD_eq_getElem?_getD → zd
open Go Go.Sx Go.RowKit Go.St
set_option maxRecDepth 100000
set_option maxHeartbeats 4000000
def ws0 (m:Md) (i:Nat) (e:Ev):List (List UInt8):=[Lib.itoa i,whoT m e.prc,qjd e.kind,(m.chans.getD e.ch.toNat ch0).name,Lib.itoa e.msg]
def ws1 (m:Md) (i:Nat) (e:Ev):List (List UInt8):=[Lib.itoa i,whoT m e.prc,qjd e.kind,(m.chans.getD e.ch.toNat ch0).name,Lib.itoa e.msg,[111,102],Lib.itoa e.frm]
theorem jge (m:Md) (i:Nat) (e:Ev) (h:e.kind=0):Lib.join (ws0 m i e) [32]++[10]=qbl m i e:=by
 unfold qbl ws0
 simp [Lib.join,h]
theorem jgf (m:Md) (i:Nat) (e:Ev) (h:¬ e.kind=0):Lib.join (ws1 m i e) [32]++[10]=qbl m i e:=by
 unfold qbl ws1
 simp [Lib.join,h]
def jgg:Nat→Bool
 | 0=>false
 | _+1=>true
theorem jgh (m:Md) (hM:ModOk m) (hn:NmOk m) (h0:ql m (qz m)=true) (l:List Mv) (hl:l.length≤1000000):Con Tryz.prog 9 [m.av,qcr l] (.str (qlz m (qbq m l))):=by
 have hev:=jux m hM h0 l hl
 obtain ⟨hE,hEl⟩:=jfo hM h0 hl
 generalize qbq m l=E at hev hE hEl ⊢
 have hE0:E.length≤1000000:=Nat.le_trans hEl hl
 refine zK {owns:=[(37,(9,1))]} 300 Tryz.func9 (fun c0 rdb=>?_)
 (repeat' ((conv=>whnf);first|refine zC 300 (hev) ?_|fail))
 refine qcd 1 1 5 1 rfl rfl ?_
 ((conv=>whnf);refine qp (fun _=>rfl) 300 1 (fun i:Nat=>[(13,iv i)]) (fun i=>[(1,.box 59 [bif jgg i then .ptr 1 0 else .nilp,.own 2 0 0 (qbv m E i).length]),(2,.row [] 5 1 0 (qbv m E i).length (bytF (qbv m E i)))]) (fun i=>i≤E.length) (fun i=>E.length - i) (0) (Nat.zero_le _) qa ⟨⟨rfl,Le.refl _,Le.refl _,trivial⟩,⟨⟨rfl,rfl,rfl⟩,rfl,rfl,fun k hk=>absurd hk (Nat.not_lt_zero k)⟩,trivial⟩ (fun g=>by cases g <;> rfl) (by kernel_rfl) ?_;(conv=>whnf))
 intro i hi
 cases hu:jgg i
 ·have hl1:=qrx hn hE hE0 i (by omega)
  by_cases hie:i<E.length
  ·have he:=hE _ (qh E i {} hie)
   have hl2:=qrw hn he i (by omega)
   have c1:=qkp (i:Int) (by omega) (by omega)
   have c2:=qrz m hM hn (E.getD i {}).prc
   have c3:=jfw (E.getD i {}).kind
   have c4:=qkp (E.getD i {}).msg (by have:=he.msg;omega) (by have:=he.msg;omega)
   have c5:=qkp (E.getD i {}).frm (by have:=he.frm;omega) (by have:=he.frm;omega)
   have k1:=he.chn
   have k2:=he.kind
   have hk:(E.getD i {}).kind=0∨¬ (E.getD i {}).kind=0:=by omega
   rcases hk with hk|hk
   ·(repeat' ((conv=>whnf);first|refine Ob.auto ?_|(apply zB <;> intro hb <;> (try simp [-zd] at hb) <;> try (exfalso;omega))))
    ((conv=>whnf);refine zR 300 ?_)
    (repeat' ((conv=>whnf);first|refine zO ?_|refine Ob.auto ?_|refine zX (c1) ?_|refine zX (c2) ?_|refine zX (c3) ?_|refine zX (c4) ?_|(apply zB <;> intro hb <;> (try simp [-zd] at hb) <;> try (exfalso;omega))))
    have hj:=jge m i (E.getD i {}) hk
    have hjl:=congrArg List.length hj
    rw [List.length_append,List.length_singleton] at hjl
    ((conv=>whnf);refine qmo (fun _=>rfl) 300 (qsb (ws0 m i (E.getD i {})) (by simp [ws0]) (by simp [ws0]) (by omega)) qdn ⟨Le.slc rfl (fun k hk=>?_),Le.refl _,trivial⟩ (by rfl) (by kernel_rfl) ?_)
    ·(iterate 7 (rcases k with _|k;· first|rfl|(exfalso;omega)));exfalso;omega
    have e1:Lib.join (ws0 m i (E.getD i {})) [32]++[10]=qbl m i (E.getD i {}):=hj
    generalize Lib.join (ws0 m i (E.getD i {})) [32]=J at hjl e1 ⊢
    (repeat' ((conv=>whnf);first|(refine Ob.intro (by (first|exact ⟨by omega,by omega⟩|(show _≤(9223372036854775807:Nat);simp [-zd];omega))) ?_)|fail))
    rw [show J++(⟨#[10]⟩:ByteArray).data.toList=J++[10] from rfl,e1]
    ((conv=>whnf);refine qcp (fun _=>rfl) 300 [1,2] (qsa false (qbv m E i) (qbl m i (E.getD i {})) (by omega) (by omega)) (by kernel_rfl) ⟨Le.refl _,Le.refl _,trivial⟩ ⟨⟨rfl,Le.refl _,Le.refl _,trivial⟩,⟨⟨rfl,rfl,rfl⟩,rfl,rfl,fun k hk=>LeL.refl _⟩,trivial⟩ (by exact qb rfl) (by exact qb rfl) (by kernel_rfl) ?_)
    (repeat' ((conv=>whnf);first|refine Ob.auto ?_|fail))
    have e2:=(qma m E i).symm
    generalize qbv m E i++qbl m i (E.getD i {})=J2 at e2 ⊢
    subst e2
    ((conv=>whnf);refine ⟨i+1,by omega,⟨qa,⟨⟨rfl,Le.refl _,Le.refl _,trivial⟩,⟨⟨rfl,rfl,rfl⟩,rfl,rfl,fun k hk=>LeL.refl _⟩,trivial⟩⟩,⟨qa,qa⟩,?_⟩;(first|omega|(dsimp only;omega)|skip))
   ·(repeat' ((conv=>whnf);first|refine Ob.auto ?_|(apply zB <;> intro hb <;> (try simp [-zd] at hb) <;> try (exfalso;omega))))
    ((conv=>whnf);refine zR 300 ?_)
    (repeat' ((conv=>whnf);first|refine zO ?_|refine Ob.auto ?_|refine zX (c1) ?_|refine zX (c2) ?_|refine zX (c3) ?_|refine zX (c4) ?_|refine zC 300 (c5) ?_|(apply zB <;> intro hb <;> (try simp [-zd] at hb) <;> try (exfalso;omega))))
    have hj:=jgf m i (E.getD i {}) hk
    have hjl:=congrArg List.length hj
    rw [List.length_append,List.length_singleton] at hjl
    ((conv=>whnf);refine qmo (fun _=>rfl) 300 (qsb (ws1 m i (E.getD i {})) (by simp [ws1]) (by simp [ws1]) (by omega)) qdn ⟨Le.slc rfl (fun k hk=>?_),Le.refl _,trivial⟩ (by rfl) (by kernel_rfl) ?_)
    ·(iterate 7 (rcases k with _|k;· first|rfl|(exfalso;omega)));exfalso;omega
    have e1:Lib.join (ws1 m i (E.getD i {})) [32]++[10]=qbl m i (E.getD i {}):=hj
    generalize Lib.join (ws1 m i (E.getD i {})) [32]=J at hjl e1 ⊢
    (repeat' ((conv=>whnf);first|(refine Ob.intro (by (first|exact ⟨by omega,by omega⟩|(show _≤(9223372036854775807:Nat);simp [-zd];omega))) ?_)|fail))
    rw [show J++(⟨#[10]⟩:ByteArray).data.toList=J++[10] from rfl,e1]
    ((conv=>whnf);refine qcp (fun _=>rfl) 300 [1,2] (qsa false (qbv m E i) (qbl m i (E.getD i {})) (by omega) (by omega)) (by kernel_rfl) ⟨Le.refl _,Le.refl _,trivial⟩ ⟨⟨rfl,Le.refl _,Le.refl _,trivial⟩,⟨⟨rfl,rfl,rfl⟩,rfl,rfl,fun k hk=>LeL.refl _⟩,trivial⟩ (by exact qb rfl) (by exact qb rfl) (by kernel_rfl) ?_)
    (repeat' ((conv=>whnf);first|refine Ob.auto ?_|fail))
    have e2:=(qma m E i).symm
    generalize qbv m E i++qbl m i (E.getD i {})=J2 at e2 ⊢
    subst e2
    ((conv=>whnf);refine ⟨i+1,by omega,⟨qa,⟨⟨rfl,Le.refl _,Le.refl _,trivial⟩,⟨⟨rfl,rfl,rfl⟩,rfl,rfl,fun k hk=>LeL.refl _⟩,trivial⟩⟩,⟨qa,qa⟩,?_⟩;(first|omega|(dsimp only;omega)|skip))
  ·(repeat' ((conv=>whnf);first|(apply zB <;> intro hb <;> (try simp [-zd] at hb) <;> try (exfalso;omega))))
   ((conv=>whnf);refine qcp (fun _=>rfl) 300 [1,2] (jgb 0 (bif false then .ptr 0 0 else .nilp) (qbv m E i)) (by kernel_rfl) ⟨Le.refl _,trivial⟩ ⟨⟨rfl,Le.refl _,Le.refl _,trivial⟩,⟨⟨rfl,rfl,rfl⟩,rfl,rfl,fun k hk=>LeL.refl _⟩,trivial⟩ (by exact qb rfl) (by exact qb rfl) (by kernel_rfl) ?_)
   (repeat' ((conv=>whnf);first|refine Ob.auto ?_|fail))
   rw [show i=E.length by omega]
   exact Le.refl _
 ·have hl1:=qrx hn hE hE0 i (by omega)
  by_cases hie:i<E.length
  ·have he:=hE _ (qh E i {} hie)
   have hl2:=qrw hn he i (by omega)
   have c1:=qkp (i:Int) (by omega) (by omega)
   have c2:=qrz m hM hn (E.getD i {}).prc
   have c3:=jfw (E.getD i {}).kind
   have c4:=qkp (E.getD i {}).msg (by have:=he.msg;omega) (by have:=he.msg;omega)
   have c5:=qkp (E.getD i {}).frm (by have:=he.frm;omega) (by have:=he.frm;omega)
   have k1:=he.chn
   have k2:=he.kind
   have hk:(E.getD i {}).kind=0∨¬ (E.getD i {}).kind=0:=by omega
   rcases hk with hk|hk
   ·(repeat' ((conv=>whnf);first|refine Ob.auto ?_|(apply zB <;> intro hb <;> (try simp [-zd] at hb) <;> try (exfalso;omega))))
    ((conv=>whnf);refine zR 300 ?_)
    (repeat' ((conv=>whnf);first|refine zO ?_|refine Ob.auto ?_|refine zX (c1) ?_|refine zX (c2) ?_|refine zX (c3) ?_|refine zX (c4) ?_|(apply zB <;> intro hb <;> (try simp [-zd] at hb) <;> try (exfalso;omega))))
    have hj:=jge m i (E.getD i {}) hk
    have hjl:=congrArg List.length hj
    rw [List.length_append,List.length_singleton] at hjl
    ((conv=>whnf);refine qmo (fun _=>rfl) 300 (qsb (ws0 m i (E.getD i {})) (by simp [ws0]) (by simp [ws0]) (by omega)) qdn ⟨Le.slc rfl (fun k hk=>?_),Le.refl _,trivial⟩ (by rfl) (by kernel_rfl) ?_)
    ·(iterate 7 (rcases k with _|k;· first|rfl|(exfalso;omega)));exfalso;omega
    have e1:Lib.join (ws0 m i (E.getD i {})) [32]++[10]=qbl m i (E.getD i {}):=hj
    generalize Lib.join (ws0 m i (E.getD i {})) [32]=J at hjl e1 ⊢
    (repeat' ((conv=>whnf);first|(refine Ob.intro (by (first|exact ⟨by omega,by omega⟩|(show _≤(9223372036854775807:Nat);simp [-zd];omega))) ?_)|fail))
    rw [show J++(⟨#[10]⟩:ByteArray).data.toList=J++[10] from rfl,e1]
    ((conv=>whnf);refine qcp (fun _=>rfl) 300 [1,2] (qsa true (qbv m E i) (qbl m i (E.getD i {})) (by omega) (by omega)) (by kernel_rfl) ⟨Le.refl _,Le.refl _,trivial⟩ ⟨⟨rfl,Le.refl _,Le.refl _,trivial⟩,⟨⟨rfl,rfl,rfl⟩,rfl,rfl,fun k hk=>LeL.refl _⟩,trivial⟩ (by exact qb rfl) (by exact qb rfl) (by kernel_rfl) ?_)
    (repeat' ((conv=>whnf);first|refine Ob.auto ?_|fail))
    have e2:=(qma m E i).symm
    generalize qbv m E i++qbl m i (E.getD i {})=J2 at e2 ⊢
    subst e2
    ((conv=>whnf);refine ⟨i+1,by omega,⟨qa,⟨⟨rfl,Le.refl _,Le.refl _,trivial⟩,⟨⟨rfl,rfl,rfl⟩,rfl,rfl,fun k hk=>LeL.refl _⟩,trivial⟩⟩,⟨qa,qa⟩,?_⟩;(first|omega|(dsimp only;omega)|skip))
   ·(repeat' ((conv=>whnf);first|refine Ob.auto ?_|(apply zB <;> intro hb <;> (try simp [-zd] at hb) <;> try (exfalso;omega))))
    ((conv=>whnf);refine zR 300 ?_)
    (repeat' ((conv=>whnf);first|refine zO ?_|refine Ob.auto ?_|refine zX (c1) ?_|refine zX (c2) ?_|refine zX (c3) ?_|refine zX (c4) ?_|refine zC 300 (c5) ?_|(apply zB <;> intro hb <;> (try simp [-zd] at hb) <;> try (exfalso;omega))))
    have hj:=jgf m i (E.getD i {}) hk
    have hjl:=congrArg List.length hj
    rw [List.length_append,List.length_singleton] at hjl
    ((conv=>whnf);refine qmo (fun _=>rfl) 300 (qsb (ws1 m i (E.getD i {})) (by simp [ws1]) (by simp [ws1]) (by omega)) qdn ⟨Le.slc rfl (fun k hk=>?_),Le.refl _,trivial⟩ (by rfl) (by kernel_rfl) ?_)
    ·(iterate 7 (rcases k with _|k;· first|rfl|(exfalso;omega)));exfalso;omega
    have e1:Lib.join (ws1 m i (E.getD i {})) [32]++[10]=qbl m i (E.getD i {}):=hj
    generalize Lib.join (ws1 m i (E.getD i {})) [32]=J at hjl e1 ⊢
    (repeat' ((conv=>whnf);first|(refine Ob.intro (by (first|exact ⟨by omega,by omega⟩|(show _≤(9223372036854775807:Nat);simp [-zd];omega))) ?_)|fail))
    rw [show J++(⟨#[10]⟩:ByteArray).data.toList=J++[10] from rfl,e1]
    ((conv=>whnf);refine qcp (fun _=>rfl) 300 [1,2] (qsa true (qbv m E i) (qbl m i (E.getD i {})) (by omega) (by omega)) (by kernel_rfl) ⟨Le.refl _,Le.refl _,trivial⟩ ⟨⟨rfl,Le.refl _,Le.refl _,trivial⟩,⟨⟨rfl,rfl,rfl⟩,rfl,rfl,fun k hk=>LeL.refl _⟩,trivial⟩ (by exact qb rfl) (by exact qb rfl) (by kernel_rfl) ?_)
    (repeat' ((conv=>whnf);first|refine Ob.auto ?_|fail))
    have e2:=(qma m E i).symm
    generalize qbv m E i++qbl m i (E.getD i {})=J2 at e2 ⊢
    subst e2
    ((conv=>whnf);refine ⟨i+1,by omega,⟨qa,⟨⟨rfl,Le.refl _,Le.refl _,trivial⟩,⟨⟨rfl,rfl,rfl⟩,rfl,rfl,fun k hk=>LeL.refl _⟩,trivial⟩⟩,⟨qa,qa⟩,?_⟩;(first|omega|(dsimp only;omega)|skip))
  ·(repeat' ((conv=>whnf);first|(apply zB <;> intro hb <;> (try simp [-zd] at hb) <;> try (exfalso;omega))))
   ((conv=>whnf);refine qcp (fun _=>rfl) 300 [1,2] (jgb 0 (bif true then .ptr 0 0 else .nilp) (qbv m E i)) (by kernel_rfl) ⟨Le.refl _,trivial⟩ ⟨⟨rfl,Le.refl _,Le.refl _,trivial⟩,⟨⟨rfl,rfl,rfl⟩,rfl,rfl,fun k hk=>LeL.refl _⟩,trivial⟩ (by exact qb rfl) (by exact qb rfl) (by kernel_rfl) ?_)
   (repeat' ((conv=>whnf);first|refine Ob.auto ?_|fail))
   rw [show i=E.length by omega]
   exact Le.refl _
end Go.Proofs.YtcfllgdfhfcicaaGreatDoor
end
section
namespace Go.Proofs.YtcfllgdfhfcicaaGreatDoor
open Go Go.Sx Go.RowKit Go.St
set_option maxRecDepth 100000
set_option maxHeartbeats 8000000
theorem juy (l:List Nd) (hl:l.length≤9223372036854775807) (hz:∀ n∈l,NdSz n):Con Tryz.prog 8 [jq l] (.tup [(qdg l).1.av,.bool (qdg l).2]):=by
 have hm:Tree l→Con Tryz.prog 20 [jq l] (.tup [(if (qbu l).1=0 then qen l else mdZ).av,.bool (decide ((qbu l).1=0))]):=fun ht=>by
  by_cases h:(qbu l).1=0
  ·rw [if_pos h,decide_eq_true h];exact jds l ht h
  ·rw [if_neg h,decide_eq_false h];exact jri l ht h
 refine zK {} 300 Tryz.func8 (fun c0 rdb=>?_)
 (repeat' ((conv=>whnf);first|refine Ob.auto ?_|refine zC 300 (jqd l hl) ?_|refine zG 300 (fun hg=>jqc l hl hz) ?_|(apply zB <;> intro hb <;> (try simp [-List.getD_eq_getElem?_getD] at hb) <;> try (exfalso;omega))))
 ·have e:qdg l=(mdZ,false):=if_neg fun h=>by
   rcases hb with hb|hb
   ·omega
   ·rw [hb] at h;simp at h
  rw [e]
  exact Le.tup ⟨jdt,Le.refl _,trivial⟩
 ·((conv=>whnf);refine qej (fun _=>rfl) 300 (hm (qrh hb.2)) (by rfl) leA (by kernel_rfl) ?_)
  (repeat' ((conv=>whnf);first|refine Ob.auto ?_|fail))
  have e:qdg l=(if (qbu l).1=0 then qen l else mdZ,decide ((qbu l).1=0)):=by
   unfold qdg
   by_cases h:(qbu l).1=0
   ·rw [if_pos ⟨hb,h⟩,if_pos h,decide_eq_true h]
   ·rw [if_neg (fun g=>h g.2),if_neg h,decide_eq_false h]
  rw [e]
  exact Le.refl _
set_option maxHeartbeats 2000000
def jgi:List Mv:=[⟨0,0,0,0⟩,⟨0,1,0,0⟩]
theorem juz:ql model26 (qz model26)=true:=by decide +kernel
theorem jgj:NmOk model26:=qwf ▸ jfm (by decide +kernel)
theorem jva:qlz model26 (qbq model26 jgi)=[48,32,112,46,48,32,115,101,110,100,32,99,32,49,10,49,32,113,46,48,32,114,101,99,118,32,99,32,49,32,111,102,32,48,10]:=by decide +kernel
theorem jgk:Con Tryz.prog 7 [] (.bool true):=by
 have h1:=jgh model26 jdw jgj juz jgi (by decide)
 rw [jva] at h1
 have h2:=qrz model26 jdw jgj 9
 rw [show whoT model26 9=[45] by decide +kernel] at h2
 refine zK {} 300 Tryz.func7 (fun c0 rdb=>?_)
 (repeat' ((conv=>whnf);first|refine zC 300 (jrj) ?_|refine zC 300 (jrk) ?_|fail))
 ((conv=>whnf);refine qej (fun _=>rfl) 300 h1 (by rfl) ⟨Le.refl _,Le.slc rfl (fun j hj=>?_),trivial⟩ (by kernel_rfl) ?_)
 ·have hj:j<2:=hj
  match j,hj with
  | 0,_=>rfl
  | 1,_=>rfl
 (repeat' ((conv=>whnf);first|refine Ob.auto ?_|refine zG 300 (fun hg=>h2) ?_|fail))
 exact Le.of_eq (congrArg AV.bool (by kernel_rfl))
end Go.Proofs.YtcfllgdfhfcicaaGreatDoor
end
section
namespace Go.St
open Go Go.Sx
def VFit (vs:List Vr):Prop:=∀ v∈vs,trim v.value v.width=v.value
theorem VFit.snoc {vs:List Vr} {v:Vr} (h:VFit vs) (hv:trim v.value v.width=v.value):VFit (vs++[v]):=fun u hu=>by
 rcases List.mem_append.1 hu with hu|hu
 ·exact h u hu
 ·rw [List.mem_singleton] at hu
  rw [hu];exact hv
theorem qoy {α β:Type} {f:β→α→β} {P:β→Prop}:∀ (l:List α) (b:β),(∀ a∈l,∀ b,P b→P (f b a))→P b→P (l.foldl f b)
 | [],_,_,h=>h
 | a::r,b,hf,h=>qoy r (f b a) (fun a' ha'=>hf a' (List.mem_cons_of_mem _ ha')) (hf a (List.mem_cons_self ..) b h)
section
variable {l:List Nd} (ht:Tree l) (hw:∀ i,i<l.length→qbf l i=0)
include hw
theorem jgl {k:Int} (h0:0≤k) (h1:k<l.length) (h2:(l.getD k.toNat nd0).kind=2):trim ((l.getD k.toNat nd0).nums.getD 1 0) ((l.getD k.toNat nd0).nums.getD 0 0)=(l.getD k.toNat nd0).nums.getD 1 0:=by
 have:=hw k.toNat (by omega)
 unfold qbf at this
 rw [if_neg (by omega),if_pos h2] at this
 split at this
 ·omega
 ·rename_i hn
  exact Classical.byContradiction fun hc=>hn (.inr (.inl hc))
include ht
theorem jvb (k:Int) (hk:k∈(l.getD 0 nd0).kids) (m:Md) (h:VFit m.vars):VFit (qfd l m k).vars:=by
 have hb:=ht.kids 0 (by have:=ht.len;omega) k hk
 unfold qfd
 simp only
 split
 ·exact h
 split
 ·exact h.snoc (jgl hw (by omega) hb.2 (by assumption))
 split
 ·exact h
 split <;> exact h
theorem jvc {n:Nat} (hn:n<l.length) (k:Int) (hk:k∈(l.getD n nd0).kids.take (varsN l (l.getD n nd0))) (x:Pr × List Vr) (h:VFit x.2):VFit (qcu l x k).2:=by
 have hb:=ht.kids n hn k (List.mem_of_mem_take hk)
 obtain ⟨i,hi,rfl⟩:=List.mem_iff_getElem.1 hk
 have hi':i<varsN l (l.getD n nd0):=by rw [List.length_take] at hi;omega
 have h2:=(qvm l (l.getD n nd0)).2 i hi'
 unfold qcu
 simp only
 refine h.snoc (jgl hw (by omega) hb.2 ?_)
 unfold kidK at h2
 rw [List.getElem_take]
 rw [List.getElem_take] at hb
 rw [List.getD_eq_getElem?_getD (l:=(l.getD n nd0).kids),List.getElem?_eq_getElem (by rw [List.length_take] at hi;omega)] at h2
 exact h2
theorem jvd (cs:List Ch) {k:Int} (h0:0≤k) (h1:k<l.length) (seen:Nat) (c:Nat) (x:List Vr × List Pr) (h:VFit x.1):VFit (qch l cs k seen x c).1:=by
 unfold qch
 simp only
 exact qoy (P:=fun y:Pr × List Vr=>VFit y.2) _ _ (fun a ha b hb=>jvc ht hw (n:=k.toNat) (by omega) a ha b hb) h
theorem jve (cs:List Ch) (k:Int) (hk:k∈(l.getD 0 nd0).kids) (x:Nat × List Vr × List Pr) (h:VFit x.2.1):VFit (qcb l cs x k).2.1:=by
 have hb:=ht.kids 0 (by have:=ht.len;omega) k hk
 unfold qcb
 simp only
 split
 ·exact qoy (P:=fun y:List Vr × List Pr=>VFit y.1) _ _ (fun c _ b hb'=>jvd ht hw cs (by omega) hb.2 _ c b hb') h
 ·exact h
theorem jvf:VFit (qen l).vars:=by
 have h1:VFit (qci l).vars:=qoy (P:=fun m:Md=>VFit m.vars) _ _ (fun k hk m hm=>jvb ht hw k hk m hm) (fun v hv=>by cases hv)
 unfold qen
 simp only
 exact qoy (P:=fun x:Nat × List Vr × List Pr=>VFit x.2.1) _ _ (fun k hk x hx=>jve ht hw _ k hk x hx) h1
end
theorem jvg {m:Md} (hm:MOk m) (hv:VFit m.vars):ql m (qz m)=true:=by
 refine (jh m _).2 ⟨⟨by simp [qz],by simp [qz],by simp [qz],by simp [qz],by simp only [qz];omega⟩,fun i hi=>?_,fun i hi=>?_,fun i hi=>?_⟩
 ·have hi':i<m.procs.length:=by simpa [qz] using hi
  have hp:=hm.place _ (qh m.procs i pr0 hi')
  unfold qni
  rw [qz,qka _ _ _ _ hi']
  omega
 ·have hi':i<m.vars.length:=by simpa [qz] using hi
  unfold qlm
  rw [qz,qui _ _ _ _ vr0 hi']
  exact hv _ (qh m.vars i vr0 hi')
 ·have hi':i<m.chans.length:=by simpa [qz] using hi
  have hc:=hm.chan _ (qh m.chans i ch0 hi')
  have hg:(qz m).chans.getD i []=[]:=by rw [qz,qka _ _ _ _ hi']
  refine ⟨?_,fun k hk=>?_⟩
  ·unfold qip
   rw [hg];exact hc.1
  ·rw [hg] at hk;simp at hk
end Go.St
end
section
namespace Go.Proofs.YtcfllgdfhfcicaaGreatDoor
open Go Go.Sx Go.RowKit Go.St
set_option maxRecDepth 100000
set_option maxHeartbeats 8000000
theorem jvh {l:List Nd} (h:(qdg l).2=true):Go.St.rightB l=true:=by
 unfold qdg at h
 split at h
 ·rename_i e
  exact e.1.2
 ·cases h
theorem jvi (l:List Nd) (hl:l.length≤9223372036854775807) (hz:∀ n∈l,NdSz n) (vs:List Mv) (p:Int):Con Tryz.prog 3 [jq l,qcr vs,iv p] (.bool true):=by
 have hm:=juy l hl hz
 cases hmd:(qdg l).2 with
 | false=>
  rw [hmd] at hm
  generalize (qdg l).1=M at hm
  refine zK {} 300 Tryz.func3 (fun c0 rdb=>?_)
  (repeat' ((conv=>whnf);first|refine zO ?_|refine Ob.auto ?_|refine zC 300 (jgk) ?_|refine zC 300 (hm) ?_|refine zY (fun hg=>(by simp at hg:Con Tryz.prog 9 [M.av,qcr vs] (.str []))) ?_|refine zY (fun hg=>(by simp at hg:Con Tryz.prog 10 [M.av,qcr vs] (.str []))) ?_|refine zY (fun hg=>(by simp at hg:Con Tryz.prog 11 [M.av,iv p] (.str []))) ?_|refine zY (fun hg=>(by simp at hg:Con Tryz.prog 12 [M.av,iv p] (.str []))) ?_|(refine zR 300 ?_)|(apply zB <;> intro hb <;> (try simp [-List.getD_eq_getElem?_getD] at hb) <;> try (exfalso;omega))))
  all_goals exact Le.refl _
 | true=>
  rw [hmd] at hm
  have hM:=(qok hmd).1
  have hvf:VFit (qdg l).1.vars:=by rw [(qok hmd).2.1];exact jvf (qok hmd).2.2.1 (qoj (qok hmd).2.2.2).2
  have hf:=jvg hM.ok hvf
  have hn:NmOk (qdg l).1:=by
   rw [(qok hmd).2.1]
   exact jfm (jvh hmd)
  generalize (qdg l).1=M at hm hM hf hn
  have h2:=qrz M hM hn p
  have h3:=jfx M hM hn p
  have h4:vs.length≤40→Con Tryz.prog 9 [M.av,qcr vs] (.str (qlz M (qbq M vs))):=fun h=>jgh M hM hn hf vs (by omega)
  have h5:vs.length≤40→Con Tryz.prog 10 [M.av,qcr vs] (.str (qlz M (qbq M vs))):=fun h=>jtw M hM hn hf vs (by omega)
  generalize qlz M (qbq M vs)=T at h4 h5
  refine zK {} 300 Tryz.func3 (fun c0 rdb=>?_)
  (repeat' ((conv=>whnf);first|refine zO ?_|refine Ob.auto ?_|refine zC 300 (jgk) ?_|refine zC 300 (hm) ?_|refine zY (fun hg=>h4 (by omega)) ?_|refine zY (fun hg=>h5 (by omega)) ?_|refine zY (fun hg=>h2) ?_|refine zY (fun hg=>h3) ?_|(refine zR 300 ?_)|(apply zB <;> intro hb <;> (try simp [-List.getD_eq_getElem?_getD] at hb) <;> try (exfalso;omega))))
  all_goals first|exact Le.refl _|exact Le.of_eq (congrArg AV.bool (by simp))
end Go.Proofs.YtcfllgdfhfcicaaGreatDoor
end
