/- Contracts: words and numbers of a chart, by the document's answer. -/
import Derived.Test.YtcfllgdfhfcicaaGreatDoorQ36
import Derived.Test.YtcfllgdfhfcicaaGreatDoorQ2
namespace Go.Proofs.YtcfllgdfhfcicaaGreatDoor
open List renaming getD_eq_getElem?_getD → zd
open Go Go.Sx Go.RowKit Go.St Go.Sp
set_option maxRecDepth 100000
set_option maxHeartbeats 8000000
theorem jgd (c b:UInt8):∀ (l:List UInt8),spL c (l++[b])=if b=c then spL c l++[[]] else (spL c l).set ((spL c l).length - 1) ((spL c l).getD ((spL c l).length - 1) []++[b])
 | []=>by
  show spL c [b]=_
  by_cases h:b=c
  ·rw [if_pos h];simp [spL,h]
  ·rw [if_neg h];simp [spL,h]
 | a::r=>by
  have ih:=jgd c b r
  have hne:=spL_ne c r
  show spL c (a::(r++[b]))=_
  rw [show spL c (a::(r++[b]))=if a=c then []::spL c (r++[b]) else match spL c (r++[b]) with|[]=>[[a]]|w::ws=>(a::w)::ws from rfl,ih]
  rw [show spL c (a::r)=if a=c then []::spL c r else match spL c r with|[]=>[[a]]|w::ws=>(a::w)::ws from rfl]
  cases hr:spL c r with
  | nil=>exact absurd hr hne
  | cons w ws=>
   by_cases hb:b=c
   ·rw [if_pos hb,if_pos hb]
    by_cases ha:a=c
    ·rw [if_pos ha,if_pos ha];rfl
    ·rw [if_neg ha,if_neg ha];rfl
   ·rw [if_neg hb,if_neg hb]
    by_cases ha:a=c
    ·rw [if_pos ha,if_pos ha]
     simp
    ·rw [if_neg ha,if_neg ha]
     cases ws with
     | nil=>simp
     | cons v vs=>simp
theorem juu (s:List UInt8) (hs:s.length≤100000):Con Tryz.prog 65 [.str s] (strs (spL 32 s)):=by
 refine zK {lit:=true} 300 Tryz.func65 (fun c0 rdb=>?_)
 ((conv=>whnf);refine qm (fun _=>rfl) 300 1 (fun i:Nat=>[(3,.own 0 0 0 (spL 32 (s.take i)).length),(4,iv i)]) (fun i=>[(0,.row [] 9 1 0 (spL 32 (s.take i)).length (encL (fun s=>[.str s]) [] (spL 32 (s.take i))))]) (fun i=>i≤s.length) (fun i=>s.length - i) (0) (Nat.zero_le _) qa ⟨⟨⟨rfl,rfl,rfl⟩,rfl,rfl,fun k hk=>match k,hk with|0,_=>LeL.of_eq rfl|k+1,h=>absurd (Nat.lt_of_succ_lt_succ h) (Nat.not_lt_zero k)⟩,trivial⟩ (fun _=>rfl) (by kernel_rfl) ?_;(conv=>whnf))
 intro i hi
 by_cases hil:i<s.length
 ·have hnx:spL 32 (s.take (i+1))=if s.getD i 0=32 then spL 32 (s.take i)++[[]] else (spL 32 (s.take i)).set ((spL 32 (s.take i)).length - 1) ((spL 32 (s.take i)).getD ((spL 32 (s.take i)).length - 1) []++[s.getD i 0]):=by
   rw [← jgd]
   congr 1
   rw [List.take_add_one,zd,List.getElem?_eq_getElem hil];rfl
  have hne:=List.length_pos_iff.2 (spL_ne 32 (s.take i))
  have hct:=qrh 32 (s.take i)
  have hgl:=qwn 32 (s.take i) ((spL 32 (s.take i)).length - 1)
  have htl:(s.take i).length≤100000:=by rw [List.length_take];omega
  generalize spL 32 (s.take i)=W at hnx hne hct hgl ⊢
  (repeat' ((conv=>whnf);first|refine zO ?_|refine Ob.auto ?_|(refine Ob.intro (by (first|exact ⟨by omega,by omega⟩|(show _≤(9223372036854775807:Nat);simp [-zd];omega))) ?_)|refine zD 300 ?_|(apply zB <;> intro hb <;> (try simp [-zd] at hb) <;> try (exfalso;omega))))
  ·have hb32:s.getD i 0=32:=UInt8.toNat_inj.1 (by have:((s.getD i 0).toNat:Int)=32:=hb;show (s.getD i 0).toNat=32;omega)
   rw [if_pos hb32] at hnx
   ((conv=>whnf);refine ⟨i+1,by omega,⟨⟨qvx hnx.symm 0,Le.refl _,trivial⟩,⟨qnu (fun s=>[AV.str s]) [] hnx.symm rfl,trivial⟩⟩,⟨qa,qa⟩,?_⟩;(first|omega|(dsimp only;omega)|skip))
  ·have hb32:¬ s.getD i 0=32:=fun h=>hb (by show ((s.getD i 0).toNat:Int)=32;rw [h];rfl)
   rw [if_neg hb32] at hnx
   have e1:((W.length:Int) - 1).toNat=W.length - 1:=by omega
   have e2:List.drop (i:Int).toNat (List.take ((i:Int)+1).toNat s)=[s.getD i 0]:=by
    rw [show (i:Int).toNat=i by omega,show ((i:Int)+1).toNat=i+1 by omega,List.take_add_one,zd,List.getElem?_eq_getElem hil,List.drop_append_of_le_length (by rw [List.length_take];omega)]
    simp
   ((conv=>whnf);refine ⟨i+1,by omega,⟨⟨Le.of_eq (congrArg (AV.own 0 0 0) (by rw [hnx,List.length_set])),Le.refl _,trivial⟩,⟨⟨⟨rfl,rfl,rfl⟩,rfl,by rw [hnx,List.length_set],fun k hk=>LeL.of_eq ?_⟩,trivial⟩⟩,⟨qa,qa⟩,?_⟩;(first|omega|(dsimp only;omega)|skip))
   ·show (if k=((W.length:Int) - 1).toNat then [AV.str (W.getD ((W.length:Int) - 1).toNat []++List.drop ((i:Int)).toNat (List.take ((i:Int)+1).toNat s))] else encL (fun s=>[AV.str s]) [] W k)=encL (fun s=>[AV.str s]) [] (spL 32 (s.take (i+1))) k
    rw [e1,e2,hnx,← qiq _ _ _ _ _ (by omega)]
   ·omega
 ·obtain rfl:i=s.length:=by omega
  rw [List.take_length]
  (repeat' ((conv=>whnf);first|refine Ob.auto ?_|(apply zB <;> intro hb <;> (try simp [-zd] at hb) <;> try (exfalso;omega))))
  exact Le.refl _
theorem jge (s:List UInt8) (hs:s.length≤1000000):Con Tryz.prog 66 [.str s] (.tup [iv (numT s).1,.bool (numT s).2]):=by
 obtain ⟨d,hd⟩:∃ d,d=Lib.trimPrefix s [45]:=⟨_,rfl⟩
 have hdl:d.length≤s.length:=by
  rw [hd];unfold Lib.trimPrefix;split
  ·rw [List.length_drop];omega
  ·exact Nat.le_refl _
 have hnum:numT s=if 0<d.length∧d.length≤6∧d.all digB=true then (if d.length<s.length then -valD d else valD d,Lib.itoa (if d.length<s.length then -valD d else valD d) == s) else (0,false):=by rw [hd];rfl
 rw [hnum]
 have hb0:jr s 0=((s.getD 0 0).toNat:Int):=rfl
 by_cases hm0:0<s.length∧jr s 0=45
 ·have e:List.drop (Int.toNat 1) s=d:=by
   rw [hd]
   cases s with
   | nil=>simp at hm0
   | cons b r=>
    have hb:b=45:=UInt8.toNat_inj.1 (by have:(b.toNat:Int)=45:=hm0.2;show b.toNat=45;omega)
    subst hb
    simp [Lib.trimPrefix,Lib.hasPrefix,List.isPrefixOf]
  refine zK {} 300 Tryz.func66 (fun c0 rdb=>?_)
  (repeat' ((conv=>whnf);first|refine Ob.auto ?_|(apply zB <;> intro hb <;> (try simp [-zd] at hb) <;> try (exfalso;omega))))
  all_goals try (exfalso;omega)
  rw [e]
  ((conv=>whnf);refine qm (fun _=>rfl) 300 1 (fun i:Nat=>[(5,iv (valD (d.take i))),(6,iv i)]) (fun _=>[]) (fun i=>i≤d.length∧i≤6∧(d.take i).all digB=true) (fun i=>d.length - i) (0) (⟨Nat.zero_le _,Nat.zero_le _,rfl⟩) qa qa (fun _=>rfl) (by kernel_rfl) ?_;(conv=>whnf))
  intro i hi
  have hv:=qrf (d.take i) hi.2.2
  have hp:(10:Int) ^ (d.take i).length≤1000000:=qrg _ (by rw [List.length_take];omega)
  by_cases hil:i<d.length
  ·have hnx:=qwh d i hil
   have hal:(d.take (i+1)).all digB=digB (d.getD i 0):=by
    have h:d.take (i+1)=d.take i++[d.getD i 0]:=by
     rw [List.take_add_one,zd,List.getElem?_eq_getElem hil];rfl
    rw [h,List.all_append,hi.2.2];simp
   have hbt:jr d (i:Int)=((d.getD i 0).toNat:Int):=rfl
   have hu:=(d.getD i 0).toNat_lt
   (repeat' ((conv=>whnf);first|refine Ob.auto ?_|(refine Ob.intro (by (first|exact ⟨by omega,by omega⟩|exact ⟨by show (0:Int)≤_;omega,by show _≤(255:Int);omega⟩)) ?_)|(apply zB <;> intro hb <;> (try simp [-zd] at hb) <;> try (exfalso;omega))))
   ·rw [if_neg fun h=>?_]
    ·exact Le.refl _
    ·have:=List.all_eq_true.1 h.2.2 _ (qj d i 0 hil)
     have:=of_decide_eq_true this
     omega
   ·have hdg:digB (d.getD i 0)=true:=decide_eq_true (by omega)
    rw [hdg] at hal
    ((conv=>whnf);refine ⟨i+1,⟨by omega,by omega,hal⟩,⟨⟨Le.of_eq (congrArg (AV.int _) hnx.symm),Le.refl _,trivial⟩,trivial⟩,⟨qa,qa⟩,?_⟩;(first|omega|(dsimp only;omega)|skip))
  ·obtain he:i=d.length:=by omega
   have hda:d.all digB=true:=by have:=hi.2.2;rw [he,List.take_length] at this;exact this
   rw [he,List.take_length] at hv hp ⊢
   have hc1:=qhs (valD d) (by omega) (by omega)
   have hc2:=qhs (-valD d) (by omega) (by omega)
   by_cases hd0:d.length=0
   ·rw [if_neg (fun h=>by omega)]
    rw [show (-valD d:Int)=0 - valD d by omega] at hc2
    have hz:valD d=0:=by rw [List.length_eq_zero_iff.1 hd0];rfl
    (repeat' ((conv=>whnf);first|refine Ob.auto ?_|refine zG 300 (fun hg=>hc2) ?_|(apply zB <;> intro hb <;> (try simp [-zd] at hb) <;> try (exfalso;omega))))
    all_goals exact Le.tup ⟨Le.of_eq (congrArg (AV.int _) (by first|exact hz|(show (0 - valD d:Int)=0;omega))),Le.of_eq (congrArg AV.bool (by rw [decide_eq_false (by omega:¬ (0:Int)<d.length)];rfl)),trivial⟩
   ·rw [if_pos ⟨by omega,by omega,hda⟩]
    by_cases hm:d.length<s.length
    ·rw [if_pos hm]
     rw [show (-valD d:Int)=0 - valD d by omega] at hc2 ⊢
     (repeat' ((conv=>whnf);first|refine Ob.auto ?_|refine zG 300 (fun hg=>hc2) ?_|(apply zB <;> intro hb <;> (try simp [-zd] at hb) <;> try (exfalso;omega))))
     all_goals exact Le.tup ⟨Le.refl _,Le.of_eq (congrArg AV.bool (by rw [decide_eq_true (by omega:(0:Int)<d.length)];rfl)),trivial⟩
    ·rw [if_neg hm]
     (repeat' ((conv=>whnf);first|refine Ob.auto ?_|refine zG 300 (fun hg=>hc1) ?_|(apply zB <;> intro hb <;> (try simp [-zd] at hb) <;> try (exfalso;omega))))
     all_goals exact Le.tup ⟨Le.refl _,Le.of_eq (congrArg AV.bool (by rw [decide_eq_true (by omega:(0:Int)<d.length)];rfl)),trivial⟩
 ·have e:s=d:=by
   rw [hd]
   cases s with
   | nil=>rfl
   | cons b r=>
    have hb:b≠45:=fun h=>hm0 ⟨by simp,by rw [hb0,h];rfl⟩
    simp [Lib.trimPrefix,Lib.hasPrefix,List.isPrefixOf,Ne.symm hb]
  refine zK {} 300 Tryz.func66 (fun c0 rdb=>?_)
  (repeat' ((conv=>whnf);first|refine Ob.auto ?_|(apply zB <;> intro hb <;> (try simp [-zd] at hb) <;> try (exfalso;omega))))
  all_goals try (exfalso;omega)
  rw [← e] at hdl ⊢
  clear hnum
  subst e
  clear hd
  ((conv=>whnf);refine qm (fun _=>rfl) 300 1 (fun i:Nat=>[(5,iv (valD (s.take i))),(6,iv i)]) (fun _=>[]) (fun i=>i≤s.length∧i≤6∧(s.take i).all digB=true) (fun i=>s.length - i) (0) (⟨Nat.zero_le _,Nat.zero_le _,rfl⟩) qa qa (fun _=>rfl) (by kernel_rfl) ?_;(conv=>whnf))
  intro i hi
  have hv:=qrf (s.take i) hi.2.2
  have hp:(10:Int) ^ (s.take i).length≤1000000:=qrg _ (by rw [List.length_take];omega)
  by_cases hil:i<s.length
  ·have hnx:=qwh s i hil
   have hal:(s.take (i+1)).all digB=digB (s.getD i 0):=by
    have h:s.take (i+1)=s.take i++[s.getD i 0]:=by
     rw [List.take_add_one,zd,List.getElem?_eq_getElem hil];rfl
    rw [h,List.all_append,hi.2.2];simp
   have hbt:jr s (i:Int)=((s.getD i 0).toNat:Int):=rfl
   have hu:=(s.getD i 0).toNat_lt
   (repeat' ((conv=>whnf);first|refine Ob.auto ?_|(refine Ob.intro (by (first|exact ⟨by omega,by omega⟩|exact ⟨by show (0:Int)≤_;omega,by show _≤(255:Int);omega⟩)) ?_)|(apply zB <;> intro hb <;> (try simp [-zd] at hb) <;> try (exfalso;omega))))
   ·rw [if_neg fun h=>?_]
    ·exact Le.refl _
    ·have:=List.all_eq_true.1 h.2.2 _ (qj s i 0 hil)
     have:=of_decide_eq_true this
     omega
   ·have hdg:digB (s.getD i 0)=true:=decide_eq_true (by omega)
    rw [hdg] at hal
    ((conv=>whnf);refine ⟨i+1,⟨by omega,by omega,hal⟩,⟨⟨Le.of_eq (congrArg (AV.int _) hnx.symm),Le.refl _,trivial⟩,trivial⟩,⟨qa,qa⟩,?_⟩;(first|omega|(dsimp only;omega)|skip))
  ·obtain he:i=s.length:=by omega
   have hda:s.all digB=true:=by have:=hi.2.2;rw [he,List.take_length] at this;exact this
   rw [he,List.take_length] at hv hp ⊢
   have hc1:=qhs (valD s) (by omega) (by omega)
   have hc2:=qhs (-valD s) (by omega) (by omega)
   by_cases hd0:s.length=0
   ·rw [if_neg (fun h=>by omega)]
    rw [show (-valD s:Int)=0 - valD s by omega] at hc2
    have hz:valD s=0:=by rw [List.length_eq_zero_iff.1 hd0];rfl
    (repeat' ((conv=>whnf);first|refine Ob.auto ?_|refine zG 300 (fun hg=>hc1) ?_|(apply zB <;> intro hb <;> (try simp [-zd] at hb) <;> try (exfalso;omega))))
    all_goals exact Le.tup ⟨Le.of_eq (congrArg (AV.int _) (by first|exact hz|(show (0 - valD s:Int)=0;omega))),Le.of_eq (congrArg AV.bool (by rw [decide_eq_false (by omega:¬ (0:Int)<s.length)];rfl)),trivial⟩
   ·rw [if_pos ⟨by omega,by omega,hda⟩]
    by_cases hm:s.length<s.length
    ·rw [if_pos hm]
     rw [show (-valD s:Int)=0 - valD s by omega] at hc2 ⊢
     (repeat' ((conv=>whnf);first|(apply zB <;> intro hb <;> (try simp [-zd] at hb) <;> try (exfalso;omega))))
     all_goals exact Le.tup ⟨Le.refl _,Le.of_eq (congrArg AV.bool (by rw [decide_eq_true (by omega:(0:Int)<s.length)];rfl)),trivial⟩
    ·rw [if_neg hm]
     (repeat' ((conv=>whnf);first|refine Ob.auto ?_|refine zG 300 (fun hg=>hc1) ?_|(apply zB <;> intro hb <;> (try simp [-zd] at hb) <;> try (exfalso;omega))))
     all_goals exact Le.tup ⟨Le.refl _,Le.of_eq (congrArg AV.bool (by rw [decide_eq_true (by omega:(0:Int)<s.length)];rfl)),trivial⟩
end Go.Proofs.YtcfllgdfhfcicaaGreatDoor
