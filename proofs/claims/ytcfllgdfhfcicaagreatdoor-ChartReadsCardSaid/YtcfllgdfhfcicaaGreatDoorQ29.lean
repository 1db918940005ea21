/- Some texts of the library, one behind the other. -/
import Derived.Test.YtcfllgdfhfcicaaGreatDoorQ27
import Derived.Test.YtcfllgdfhfcicaaGreatDoorQ28
import Derived.Test.YtcfllgdfhfcicaaGreatDoorQ20
import Derived.Test.YtcfllgdfhfcicaaGreatDoorQ2
import Derived.Test.YtcfllgdfhfcicaaGreatDoorQ25
section
namespace Go.Proofs.YtcfllgdfhfcicaaGreatDoor
open List renaming getD_eq_getElem?_getD → zd
open Go Go.Sx Go.RowKit Go.St
set_option maxRecDepth 100000
set_option maxHeartbeats 4000000
theorem jdz (m:Md) (hm:MOk m) (s:Stt) (hf:qq m s=true) (hs:SSz s) (p:Nat) (hp:p<m.procs.length) (e:Ed) {pl:Int} (he:EdOk m.tree.length m.vars.length m.chans.length pl e) :
  Con Tryz.prog 168 [m.av,s.av,iv p,.agg e.cells] (.bool (canB m s p e)):=by
 have hso:=jdy hm hf
 have hat:s.at_.length=m.procs.length:=((qag m s).1 hf).1.1
 have hcl:=hso.cl
 have hch:=he.chn
 have hsv:e.act=1∨e.act=2∨e.act=4∨e.act=5→sval m p s e.expr=val m p s e.expr∧decide (e.expr<0)=false:=fun h=>⟨if_pos ⟨(he.ex h).1,(he.ex h).2,hf⟩,decide_eq_false (by have:=he.ex h;omega)⟩
 have hnx:e.act=0∨e.act=3→decide (e.expr<0)=true:=fun h=>decide_eq_true (by have:=he.nex h;omega)
 have hac:=he.act
 refine zK {} 300 Tryz.func168 (fun c0 rdb=>?_)
 (repeat' ((conv=>whnf);first|refine zO ?_|refine Ob.auto ?_|refine zC 300 (qvw m hm p s hs e.expr) ?_|refine zD 300 ?_|(apply zB <;> intro hb <;> (try simp [-zd] at hb) <;> try (exfalso;omega))))
 all_goals refine Le.of_eq (congrArg AV.bool ?_)
 all_goals unfold canB qlen room
 ·have h:(s.at_.getD p 0 == e.frm)=false:=by simpa [-zd] using hb
  rw [h];rfl
 ·have h:(s.at_.getD p 0 == e.frm)=true:=by simp [-zd, *]
  have h0:e.act=0:=by assumption
  rw [h,hnx (.inl h0),if_neg (by omega),if_neg (by omega),if_neg (by omega),if_neg (by omega)];rfl
 ·have h:(s.at_.getD p 0 == e.frm)=true:=by simp [-zd, *]
  have h0:e.act=3:=by assumption
  rw [h,hnx (.inr h0),if_neg (by omega),if_pos h0];rfl
 ·have h0:e.act=2:=by assumption
  have h:decide (((s.chans.getD e.chn.toNat []).length:Int)<(m.chans.getD e.chn.toNat ch0).room)=false:=decide_eq_false (by omega)
  rw [if_pos h0,h,Bool.and_false]
 ·have h:(s.at_.getD p 0 == e.frm)=true:=by simp [-zd, *]
  have h0:e.act=2:=by assumption
  obtain ⟨h1,h2⟩:=hsv (by omega)
  have h3:decide (((s.chans.getD e.chn.toNat []).length:Int)<(m.chans.getD e.chn.toNat ch0).room)=true:=decide_eq_true (by omega)
  rw [h,h1,h2,if_pos h0,h3,Bool.and_true];rfl
 ·have h:(s.at_.getD p 0 == e.frm)=true:=by simp [-zd, *]
  have h0:e.act=4:=by assumption
  obtain ⟨h1,h2⟩:=hsv (by omega)
  rw [h,h1,h2,if_neg (by omega),if_neg (by omega),if_pos h0,if_neg (of_decide_eq_false h2)];rfl
 ·have h:(s.at_.getD p 0 == e.frm)=true:=by simp [-zd, *]
  have h0:e.act=5:=by assumption
  obtain ⟨h1,h2⟩:=hsv (by omega)
  rw [h,h1,h2,if_neg (by omega),if_neg (by omega),if_neg (by omega),if_pos h0,if_neg (of_decide_eq_false h2)];rfl
 ·have h:(s.at_.getD p 0 == e.frm)=true:=by simp [-zd, *]
  have h0:e.act=1:=by omega
  obtain ⟨h1,h2⟩:=hsv (by omega)
  rw [h,h1,h2,if_neg (by omega),if_neg (by omega),if_neg (by omega),if_neg (by omega),Bool.and_true];rfl
theorem jsa (m:Md) (hm:MOk m) (s:Stt) (hcl:s.chans.length=m.chans.length) (c:Nat) (hc:c<m.chans.length):Con Tryz.prog 147 [m.av,s.av,iv c] (.bool (qli m s c)):=by
 refine zK {} 300 Tryz.func147 (fun c0 rdb=>?_)
 (repeat' ((conv=>whnf);first|refine Ob.auto ?_|fail))
 exact Le.refl _
theorem jsb (m:Md) (hm:MOk m) (s:Stt) (hcl:s.chans.length=m.chans.length) (c:Nat) (hc:c<m.chans.length):Con Tryz.prog 148 [m.av,s.av,iv c] (.bool (qjv m s c)):=by
 refine zK {} 300 Tryz.func148 (fun c0 rdb=>?_)
 (repeat' ((conv=>whnf);first|refine zO ?_|refine Ob.auto ?_|refine zD 300 ?_|fail))
 exact Le.refl _
theorem jea (m:Md) (hm:MOk m) (s:Stt) (hf:qq m s=true) (hs:SSz s) (p:Nat) (hp:p<m.procs.length) {pl:Int} (he:∀ e∈edgesOf m p,EdOk m.tree.length m.vars.length m.chans.length pl e) (hn:(edgesOf m p).length≤40000) :
  Con Tryz.prog 152 [m.av,s.av,iv p] (.bool (qvp m s p)):=by
 refine zK {} 300 Tryz.func152 (fun c0 rdb=>?_)
 (repeat' ((conv=>whnf);first|refine Ob.auto ?_|fail))
 ((conv=>whnf);refine qm (fun _=>rfl) 300 1 (fun i:Nat=>[(16,iv i),(6,.bool false)]) (fun _=>[]) (fun i=>i≤(edgesOf m p).length∧∀ j,j<i→canB m s p ((edgesOf m p).getD j ed0)=false) (fun i=>(edgesOf m p).length - i) (0) (⟨Nat.zero_le _,fun j hj=>absurd hj (Nat.not_lt_zero j)⟩) qa qa (fun _=>rfl) (by kernel_rfl) ?_;(conv=>whnf))
 intro i hi
 (repeat' ((conv=>whnf);first|refine Ob.auto ?_|(apply zB <;> intro hb <;> (try simp [-zd] at hb) <;> try (exfalso;omega))))
 ·have hil:i<(edgesOf m p).length:=by assumption
  ((conv=>whnf);refine qdz (fun _=>rfl) 300 (jdz m hm s hf hs p hp ((edgesOf m p).getD i ed0) (he _ (qj _ _ _ hil))) (by rfl) leA (by kernel_rfl) ?_)
  (repeat' ((conv=>whnf);first|refine Ob.auto ?_|(apply zB <;> intro hb <;> (try simp [-zd] at hb) <;> try (exfalso;omega))))
  ·exact Le.of_eq (congrArg AV.bool (List.any_eq_true.2 ⟨_,qj _ _ _ hil,by assumption⟩).symm)
  ·((conv=>whnf);refine ⟨i+1,⟨hil,qaw hi.2 (by assumption)⟩,⟨qa,qa⟩,⟨qa,qa⟩,?_⟩;(first|omega|(dsimp only;omega)|skip))
 ·have hil:(edgesOf m p).length≤i:=by assumption
  refine Le.of_eq (congrArg AV.bool ?_)
  unfold qvp
  rw [Eq.comm,List.any_eq_false]
  intro e hme
  obtain ⟨j,hj,rfl⟩:=List.mem_iff_getElem.1 hme
  have:=hi.2 j (by omega)
  rw [zd,List.getElem?_eq_getElem hj] at this
  simp only [Option.getD_some] at this
  rw [this];decide
def qns (m:Md) (s:Stt) (p e:Int):Bool:=qq m s && decide (0≤p∧p<m.procs.length∧0≤e∧e<(edgesOf m p.toNat).length) && canB m s p.toNat ((edgesOf m p.toNat).getD e.toNat ed0)
theorem jsc (m:Md) (hm:MOk m) (s:Stt) (hs:SSz s) (he:∀ q∈m.procs,∀ e∈q.edges,EdOk m.tree.length m.vars.length m.chans.length q.places e) (p e:Int) :
  Con Tryz.prog 146 [m.av,s.av,iv p,iv e] (.bool (qns m s p e)):=by
 refine zK {} 300 Tryz.func146 (fun c0 rdb=>?_)
 (repeat' ((conv=>whnf);first|refine Ob.auto ?_|refine zC 300 (qhp m s hs) ?_|(apply zB <;> intro hb <;> (try simp [-zd] at hb) <;> try (exfalso;omega))))
 ·refine Le.of_eq (congrArg AV.bool ?_)
  have hb':¬ (qq m s=true∧0≤p∧p<m.procs.length∧0≤e∧e<(edgesOf m p.toNat).length):=fun ⟨h1,h2,h3,h4,h5⟩=>by
   have h5':e<(m.procs.getD p.toNat pr0).edges.length:=h5
   rcases hb with (((hb|hb)|hb)|hb)|hb
   ·rw [h1] at hb;cases hb
   all_goals omega
  unfold qns
  by_cases h1:qq m s=true
  ·rw [decide_eq_false (fun h=>hb' ⟨h1,h⟩),Bool.and_false];rfl
  ·rw [Bool.not_eq_true] at h1
   rw [h1];rfl
 ·obtain ⟨⟨⟨⟨hf,h0⟩,h1⟩,h2⟩,h3⟩:=hb
  obtain ⟨P,rfl⟩:=Int.eq_ofNat_of_zero_le h0
  obtain ⟨E,rfl⟩:=Int.eq_ofNat_of_zero_le h2
  have hP:P<m.procs.length:=by omega
  have h3':(E:Int)<(edgesOf m P).length:=h3
  have hE:E<(edgesOf m P).length:=by omega
  (repeat' ((conv=>whnf);first|refine zA ?_|refine Ob.auto ?_|(refine CallY.con (jdz m hm s hf hs P hP ((edgesOf m P).getD E ed0) (he _ (qj _ _ _ hP) _ (qj _ _ _ hE))) (by rfl) leA ?_)|(refine zQ 300 ?_)|fail))
  refine Le.of_eq (congrArg AV.bool ?_)
  unfold qns
  rw [hf,Int.toNat_natCast,Int.toNat_natCast,decide_eq_true ⟨by omega,by omega,by omega,by omega⟩]
  rfl
end Go.Proofs.YtcfllgdfhfcicaaGreatDoor
end
section
namespace Go.Proofs.YtcfllgdfhfcicaaGreatDoor
open Go Go.Sx Go.RowKit Go.St
set_option maxRecDepth 100000
set_option maxHeartbeats 4000000
theorem qnt (m:Md) (hM:ModOk m) (s:Stt) (hf:qq m s=true) (v:Mv):Con Tryz.prog 118 [m.av,s.av,v.av] (.bool (qan m s v)):=by
 have hs:=qfa hM hf
 have hcl:=((qag m s).1 hf).1.2.2.1
 have hen:=jsc m hM.ok s hs (fun q hq=>(hM.pr q hq).ed)
 obtain ⟨k,p,e,c⟩:=v
 by_cases hc:0≤c
 ·obtain ⟨c,rfl⟩:=Int.eq_ofNat_of_zero_le hc
  refine zK {} 300 Tryz.func118 (fun c0 rdb=>?_)
  (repeat' ((conv=>whnf);first|refine Ob.auto ?_|refine zG 300 (fun hg=>hen p e) ?_|refine zC 300 (jsa m hM.ok s hcl c (by omega)) ?_|refine zC 300 (jsb m hM.ok s hcl c (by omega)) ?_|(apply zB <;> intro hb <;> (try simp [-List.getD_eq_getElem?_getD] at hb) <;> try (exfalso;omega))))
  all_goals refine Le.of_eq (congrArg AV.bool ?_)
  ·subst hb
   rw [Bool.eq_iff_iff];simp [qan,qns,hf,and_assoc]
  all_goals (rw [Bool.eq_iff_iff];simp [qan, *])
  all_goals omega
 ·refine zK {} 300 Tryz.func118 (fun c0 rdb=>?_)
  (repeat' ((conv=>whnf);first|refine Ob.auto ?_|refine zG 300 (fun hg=>hen p e) ?_|(apply zB <;> intro hb <;> (try simp [-List.getD_eq_getElem?_getD] at hb) <;> try (exfalso;omega))))
  all_goals refine Le.of_eq (congrArg AV.bool ?_)
  ·subst hb
   rw [Bool.eq_iff_iff];simp [qan,qns,hf,and_assoc]
  all_goals (rw [Bool.eq_iff_iff];simp [qan, *])
  all_goals omega
theorem qnu {α:Type} (enc:α→List AV) (d:α) {l l':List α} {x:α} (h:l++[x]=l') {ids:List Nat} {e:TypeId} {sz ep:Nat} {g:Nat→List AV} (hg:g 0=enc x):SoLe (.row ids e sz ep (l.length+1) (appF l.length (encL enc d l) 1 g)) (.row ids e sz ep l'.length (encL enc d l')):=by
 subst h;exact ⟨⟨rfl,rfl,rfl⟩,rfl,by rw [List.length_append];rfl,qzp hg⟩
theorem qvx {α:Type} {l l':List α} {x:α} (h:l++[x]=l') (r:Nat):Le (.own r 0 0 (l.length+1)) (.own r 0 0 l'.length):=by
 subst h;exact Le.of_eq (by rw [List.length_append];rfl)
theorem jse {a b:Ev} (h:a.kind=b.kind∧a.mv=b.mv∧a.prc=b.prc∧a.ch=b.ch∧a.msg=b.msg∧a.frm=b.frm):a=b:=by
 cases a;cases b;simp_all
theorem jed (a b:List Ev) (ha:a.length≤1000000):Con Tryz.prog 16 [evsV a,evsV b] (.bool (decide (a=b))):=by
 refine zK {} 300 Tryz.func16 (fun c0 rdb=>?_)
 (repeat' ((conv=>whnf);first|refine Ob.auto ?_|(apply zB <;> intro hb <;> (try simp [-List.getD_eq_getElem?_getD] at hb) <;> try (exfalso;omega))))
 ·refine Le.of_eq (congrArg AV.bool ?_)
  exact (decide_eq_false (fun h=>by subst h;simp at hb)).symm
 ·((conv=>whnf);refine qm (fun _=>rfl) 300 1 (fun i:Nat=>[(5,iv i)]) (fun _=>[]) (fun i=>i≤a.length∧∀ j,j<i→a.getD j {}=b.getD j {}) (fun i=>a.length - i) (0) (⟨by omega,fun j hj=>absurd hj (Nat.not_lt_zero j)⟩) qa qa (fun _=>rfl) (by kernel_rfl) ?_;(conv=>whnf))
  intro i hi
  (repeat' ((conv=>whnf);first|refine zO ?_|refine Ob.auto ?_|refine zD 300 ?_|(apply zB <;> intro hb <;> (try simp [-List.getD_eq_getElem?_getD] at hb) <;> try (exfalso;omega))))
  ·refine Le.of_eq (congrArg AV.bool ?_)
   exact (decide_eq_false (fun h=>by subst h;simp at hb)).symm
  ·((conv=>whnf);refine ⟨i+1,⟨by omega,qaw hi.2 (jse hb)⟩,⟨qa,qa⟩,⟨qa,qa⟩,?_⟩;(first|omega|(dsimp only;omega)|skip))
  ·refine Le.of_eq (congrArg AV.bool ?_)
   exact (decide_eq_true (jnh {} (by omega) (fun j hj=>hi.2 j (by omega)))).symm



theorem qvy {k i:Nat} (h:k≠i):(k<i+1)=(k<i):=propext ⟨fun _=>by omega,fun _=>by omega⟩
theorem jee {f g:Nat→List AV} {m q:Nat} (hq:q<m):appF 0 f m g q=g q:=by
 unfold appF
 rw [if_neg (by omega),if_pos (by omega),Nat.sub_zero]
theorem jsf (l:List Int) (hl:l.length≤1000000):Con Tryz.prog 149 [ints l] (ints l):=by
 refine zK {} 300 Tryz.func149 (fun c0 rdb=>?_)
 (repeat' ((conv=>whnf);first|refine Ob.auto ?_|(refine Ob.intro (by ((refine ⟨by omega,by omega,by omega,?_⟩;dsimp only;refine Int.le_trans (Int.mul_le_mul_of_nonneg_right (?_:_≤(4000001:Int)) (Int.natCast_nonneg _)) (by decide +kernel);omega))) ?_)|fail))
 exact Le.slc (by simp) (fun q hq=>jee (by simpa using hq))
theorem qnv (l:List Int) (hl:l.length≤1000000):Trip Tryz.prog 149 [ints l] [] (.own 0 0 0 l.length) [(0,.row [] 3 1 0 l.length (encL (fun n=>[iv n]) 0 l))] 1:=by
 refine zL {} 300 Tryz.func149 (fun c0 rdb mpb=>?_)
 (repeat' ((conv=>whnf);first|refine Ob.auto ?_|(refine Ob.intro (by ((refine ⟨by omega,by omega,by omega,?_⟩;dsimp only;refine Int.le_trans (Int.mul_le_mul_of_nonneg_right (?_:_≤(4000001:Int)) (Int.natCast_nonneg _)) (by decide +kernel);omega))) ?_)|fail))
 refine ⟨Le.of_eq (by simp),⟨⟨rfl,rfl,by simp⟩,rfl,by simp,fun q hq=>LeL.of_eq (jee (by simpa using hq))⟩,trivial⟩
theorem jef (s:Stt) (hs:SSz s):Trip Tryz.prog 119 [s.av] [] (.agg [.own 4 0 0 s.at_.length,.own 8 0 0 s.vars.length,.own 13 0 0 s.chans.length,iv s.holder])
  [(4,.row [] 3 1 0 s.at_.length (encL (fun n=>[iv n]) 0 s.at_)),(8,.row [] 3 1 0 s.vars.length (encL (fun n=>[iv n]) 0 s.vars)),(13,.row [] 28 1 0 s.chans.length (encL (fun c=>[ints c]) [] s.chans))] 14:=by
 have ha:=hs.a
 have hv:=hs.v
 have hc:=hs.c
 have hl:=hs.l
 refine zL {} 300 Tryz.func119 (fun c0 rdb mpb=>?_)
 ((conv=>whnf);refine qbe (fun _=>rfl) (by kernel_rfl) 300 [.new [ints s.at_] (.own 0 0 0 s.at_.length) [(0,.row [] 3 1 0 s.at_.length (encL (fun n=>[iv n]) 0 s.at_))] 1,.new [ints s.vars] (.own 0 0 0 s.vars.length) [(0,.row [] 3 1 0 s.vars.length (encL (fun n=>[iv n]) 0 s.vars))] 1] (by kernel_rfl) ?_)
 (repeat' ((conv=>whnf);first|refine Ob.auto ?_|(refine Ob.intro (by (first|(refine ⟨by omega,by omega,by omega,?_⟩;dsimp only;refine Int.le_trans (Int.mul_le_mul_of_nonneg_right (?_:_≤(4000001:Int)) (Int.natCast_nonneg _)) (by decide +kernel);omega)|exact ⟨qnv s.at_ hs.a,by rfl,LeL.refl _,by kernel_rfl,by kernel_rfl,by exact qb rfl⟩|exact ⟨qnv s.vars hs.v,by rfl,LeL.refl _,by kernel_rfl,by kernel_rfl,by exact qb rfl⟩)) ?_)|fail))
 ((conv=>whnf);refine qm (fun _=>rfl) 300 1 (fun i:Nat=>[(22,iv i)]) (fun i=>[(13,.row [] 28 1 0 s.chans.length (fun k=>[if k<i then ints (s.chans.getD k []) else .nils]))]) (fun i=>i≤s.chans.length) (fun i=>s.chans.length - i) (0) (by omega) qa ⟨qbz (fun k _=>by rw [if_neg (Nat.not_lt_zero k)];rfl),trivial⟩ (fun _=>rfl) (by kernel_rfl) ?_;(conv=>whnf))
 intro i hi
 (repeat' ((conv=>whnf);first|refine Ob.auto ?_|(apply zB <;> intro hb <;> (try simp [-List.getD_eq_getElem?_getD] at hb) <;> try (exfalso;omega))))
 ·((conv=>whnf);refine qbe (fun _=>rfl) (by kernel_rfl) 300 [.con (ints (s.chans.getD i []))] (by kernel_rfl) ?_)
  (repeat' ((conv=>whnf);first|refine Ob.auto ?_|(refine Ob.intro (by (first|exact ⟨by omega,by omega⟩|exact ⟨_,jsf (s.chans.getD i []) (hl _ (qj _ _ _ (by omega))),by rfl,LeL.refl _⟩)) ?_)|fail))
  ((conv=>whnf);refine ⟨i+1,by omega,⟨qa,qa⟩,⟨qa,qa⟩,?_⟩;(first|omega|(dsimp only;omega)|skip))
 ·obtain rfl:i=s.chans.length:=by omega
  exact ⟨Le.refl _,⟨⟨rfl,rfl,rfl⟩,rfl,rfl,fun q hq=>LeL.refl _⟩,⟨⟨rfl,rfl,rfl⟩,rfl,rfl,fun q hq=>LeL.refl _⟩,qbz (fun k hk=>by rw [if_pos (by simpa using hk)];rfl),trivial⟩
theorem jeg (s:Stt) (hs:SSz s):Trip Tryz.prog 119 [s.av] [] (.agg [.own 4 0 0 s.at_.length,.own 8 0 0 s.vars.length,.own 13 0 0 s.chans.length,iv s.holder])
  [(4,.row [] 3 1 0 s.at_.length (encL (fun n=>[iv n]) 0 s.at_)),(8,.row [] 3 1 0 s.vars.length (encL (fun n=>[iv n]) 0 s.vars)),(13,.row [19] 28 1 0 s.chans.length (fun k=>[.own 19 k 1 (s.chans.getD k []).length])),
   (19,.fam 3 1 s.chans.length (fun _=>1) (fun k=>(s.chans.getD k []).length) (fun k=>encL (fun n=>[iv n]) 0 (s.chans.getD k [])))] 20:=by
 have ha:=hs.a
 have hv:=hs.v
 have hc:=hs.c
 have hl:=hs.l
 refine zL {} 300 Tryz.func119 (fun c0 rdb mpb=>?_)
 ((conv=>whnf);refine qbe (fun _=>rfl) (by kernel_rfl) 300 [.new [ints s.at_] (.own 0 0 0 s.at_.length) [(0,.row [] 3 1 0 s.at_.length (encL (fun n=>[iv n]) 0 s.at_))] 1,.new [ints s.vars] (.own 0 0 0 s.vars.length) [(0,.row [] 3 1 0 s.vars.length (encL (fun n=>[iv n]) 0 s.vars))] 1] (by kernel_rfl) ?_)
 (repeat' ((conv=>whnf);first|refine Ob.auto ?_|(refine Ob.intro (by (first|(refine ⟨by omega,by omega,by omega,?_⟩;dsimp only;refine Int.le_trans (Int.mul_le_mul_of_nonneg_right (?_:_≤(4000001:Int)) (Int.natCast_nonneg _)) (by decide +kernel);omega)|exact ⟨qnv s.at_ hs.a,by rfl,LeL.refl _,by kernel_rfl,by kernel_rfl,by exact qb rfl⟩|exact ⟨qnv s.vars hs.v,by rfl,LeL.refl _,by kernel_rfl,by kernel_rfl,by exact qb rfl⟩)) ?_)|fail))
 refine qzj 13 3 1 rfl (fun _ _=>rfl) ?_
 ((conv=>whnf);refine jsd (fun _=>rfl) 300 1 (fun i:Nat=>[(22,iv i)]) (fun i=>[(13,.row [19] 28 1 0 s.chans.length (fun k=>[.own 19 k (if k<i then 1 else 0) (if k<i then (s.chans.getD k []).length else 0)])),(19,.fam 3 1 s.chans.length (fun k=>if k<i then 1 else 0) (fun k=>if k<i then (s.chans.getD k []).length else 0) (fun k=>encL (fun n=>[iv n]) 0 (s.chans.getD k [])))]) (fun i=>i≤s.chans.length) (fun i=>s.chans.length - i) (0) (by omega) qa ⟨qbz (fun k _=>by rw [if_neg (Nat.not_lt_zero k),if_neg (Nat.not_lt_zero k)]),qfx (fun k _=>by rw [if_neg (Nat.not_lt_zero k)]) (fun k _=>by rw [if_neg (Nat.not_lt_zero k)]) (fun k j _ hj=>absurd hj (Nat.not_lt_zero _)),trivial⟩ (fun _=>rfl) (by kernel_rfl) ?_;(conv=>whnf))
 intro i hi
 (repeat' ((conv=>whnf);first|refine Ob.auto ?_|(apply zB <;> intro hb <;> (try simp [-List.getD_eq_getElem?_getD] at hb) <;> try (exfalso;omega))))
 ·have hci:=hl _ (qj s.chans i [] (by omega))
  ((conv=>whnf);refine qbe (fun _=>rfl) (by kernel_rfl) 300 [.new [ints (s.chans.getD i [])] (.own 0 0 0 (s.chans.getD i []).length) [(0,.row [] 3 1 0 (s.chans.getD i []).length (encL (fun n=>[iv n]) 0 (s.chans.getD i [])))] 1] (by kernel_rfl) ?_)
  (repeat' ((conv=>whnf);first|refine Ob.auto ?_|(refine Ob.intro (by (first|exact ⟨by omega,by omega⟩|exact ⟨qnv _ hci,by rfl,LeL.refl _,by kernel_rfl,by kernel_rfl,by exact qb rfl⟩)) ?_)|fail))
  ((conv=>whnf);refine ⟨i+1,by omega,⟨_,Turn.absorb 13 19 24 i rfl rfl rfl (by omega) (by decide) (by exact if_pos rfl) (fun k _ hne=>⟨_,_,if_neg hne⟩),⟨qa,⟨qbz (fun k _=>?_),qfx (fun k _=>?_) (fun k _=>?_) (fun k j _ hj=>?_),trivial⟩⟩,⟨qa,qa⟩⟩,?_⟩;(first|omega|(dsimp only;omega)|skip))
  ·by_cases hki:k=i
   ·subst hki
    refine (if_pos rfl).trans ?_
    simp
   ·refine (if_neg hki).trans ((if_neg hki).trans ?_)
    simp only [qvy hki]
  ·unfold upd
   by_cases hki:k=i
   ·subst hki;simp
   ·rw [if_neg hki];simp only [qvy hki]
  ·unfold upd
   by_cases hki:k=i
   ·subst hki;simp
   ·rw [if_neg hki];simp only [qvy hki]
  ·unfold upd
   by_cases hki:k=i
   ·subst hki;rw [if_pos rfl]
   ·rw [if_neg hki]
  ·omega
 ·obtain rfl:i=s.chans.length:=by omega
  exact ⟨Le.refl _,⟨⟨rfl,rfl,rfl⟩,rfl,rfl,fun q hq=>LeL.refl _⟩,⟨⟨rfl,rfl,rfl⟩,rfl,rfl,fun q hq=>LeL.refl _⟩,qbz (fun k hk=>by rw [if_pos hk,if_pos hk]),qfx (fun k hk=>by rw [if_pos hk]) (fun k hk=>by rw [if_pos hk]) (fun _ _ _ _=>rfl),trivial⟩

end Go.Proofs.YtcfllgdfhfcicaaGreatDoor
end
