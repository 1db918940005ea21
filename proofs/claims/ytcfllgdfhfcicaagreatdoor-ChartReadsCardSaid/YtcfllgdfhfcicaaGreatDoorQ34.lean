/- Some texts of the library, one behind the other. -/
import Derived.Test.YtcfllgdfhfcicaaGreatDoorQ33
import Derived.Test.YtcfllgdfhfcicaaGreatDoorQ31
import Derived.Test.YtcfllgdfhfcicaaGreatDoorQ2
import Derived.Test.YtcfllgdfhfcicaaGreatDoorQ32
import Derived.Test.YtcfllgdfhfcicaaGreatDoorQ3
import Derived.Shelf.Strings.OnBuilder
import Derived.Test.YtcfllgdfhfcicaaGreatDoorQ26
section
namespace Go.Proofs.YtcfllgdfhfcicaaGreatDoor
open Go Go.Sx Go.RowKit Go.St
set_option maxRecDepth 100000
set_option maxHeartbeats 4000000
theorem jua (m:Md) (hM:ModOk m) (s:Stt) (hf:qq m s=true) (v:Mv) (h:qan m s v=true) (E:List Ev) (hE:E.length≤1000000) (i:Nat) (hW:qcy m s E) :
  Trip Tryz.prog 49 [.ptr 0 0,iv i,v.av,s.av,(jf m s v).av] [boxG m E.length,rowE E,rowW m E,famW m E] (.tup [])
   [(0,boxG m (E++(evOf m s (jf m s v) i v E).toList).length),(1,rowE (E++(evOf m s (jf m s v) i v E).toList)),(2,rowW m (E++(evOf m s (jf m s v) i v E).toList)),(3,famW m (E++(evOf m s (jf m s v) i v E).toList))] 4:=by
 have hl:=((qag m s).1 hf).1.2.2.1
 have hft:=jdu hM hf h
 have htl:=((qag m _).1 hft).1.2.2.1
 have hW':=jep hM hf h hW i
 cases qvz h with
 | lose c hc hq=>
  have:=jtv m s (jf m s ⟨1,0,0,c⟩) E hE i c hl hW hc hq
  rw [show (evOf m s (jf m s ⟨1,0,0,c⟩) i ⟨1,0,0,c⟩ E).toList=[⟨2,i,-1,c,qba s c,qaz E c⟩] from rfl,List.length_append]
  exact this
 | copy c hc hq=>
  have:=jtw m s (jf m s ⟨2,0,0,c⟩) E hE i c hl hW hc hq
  rw [show (evOf m s (jf m s ⟨2,0,0,c⟩) i ⟨2,0,0,c⟩ E).toList=[⟨3,i,-1,c,qba s c,qaz E c⟩] from rfl,List.length_append]
  exact this
 | edge P e hP he hcan=>
  have hed:=edOk hM hP he
  have hq:=jeo hcan
  have hte:edOf m ⟨0,P,e,0⟩=(edgesOf m P).getD e ed0:=rfl
  by_cases h2:((edgesOf m P).getD e ed0).act=2
  ·have hch:=hed.chn (.inl h2)
   obtain ⟨C,hC⟩:=Int.eq_ofNat_of_zero_le hch.1
   have hC':C<m.chans.length:=by omega
   have hev:evOf m s (jf m s ⟨0,P,e,0⟩) i ⟨0,P,e,0⟩ E=some ⟨0,i,P,C,qei (jf m s ⟨0,P,e,0⟩) C,-1⟩:=by
    unfold evOf
    rw [if_neg (by simp),if_neg (by simp),hte,if_pos h2,hC]
   have hss:=qfa hM hft
   have hlt:=hss.l _ (qj _ C [] (by omega))
   have hpos:0<((jf m s ⟨0,P,e,0⟩).chans.getD C []).length:=by
    have hw:=(hW' C hC').2
    have hwE:=(hW C hC').1
    rw [hev] at hw
    have:=(qvv (E:=E) (e:=⟨0,i,P,C,qei (jf m s ⟨0,P,e,0⟩) C,-1⟩) (c:=(C:Int)) (decide_eq_true ⟨rfl,.inl rfl⟩) hwE).2.2
    rw [show (some (⟨0,i,P,C,qei (jf m s ⟨0,P,e,0⟩) C,-1⟩:Ev)).toList=[⟨0,i,P,C,qei (jf m s ⟨0,P,e,0⟩) C,-1⟩] from rfl,this,List.length_append] at hw
    rw [← hw]
    exact Nat.succ_pos _
   have:=jtx m s (jf m s ⟨0,P,e,0⟩) E hE i P e C hW hP he h2 hC hC' htl hpos hlt
   rw [hev,show (some (⟨0,i,P,C,qei (jf m s ⟨0,P,e,0⟩) C,-1⟩:Ev)).toList=[⟨0,i,P,C,qei (jf m s ⟨0,P,e,0⟩) C,-1⟩] from rfl,List.length_append]
   exact this
  ·by_cases h3:((edgesOf m P).getD e ed0).act=3
   ·have hch:=hed.chn (.inr h3)
    obtain ⟨C,hC⟩:=Int.eq_ofNat_of_zero_le hch.1
    have hC':C<m.chans.length:=by omega
    have hev:evOf m s (jf m s ⟨0,P,e,0⟩) i ⟨0,P,e,0⟩ E=some ⟨1,i,P,C,qba s C,qaz E C⟩:=by
     unfold evOf
     rw [if_neg (by simp),if_neg (by simp),hte,if_neg h2,if_pos h3,hC]
    have hq:=hq h3
    rw [hC] at hq
    have:=jty m s (jf m s ⟨0,P,e,0⟩) E hE i P e C hW hP he h3 hC hC' hl hq
    rw [hev,show (some (⟨1,i,P,C,qba s C,qaz E C⟩:Ev)).toList=[⟨1,i,P,C,qba s C,qaz E C⟩] from rfl,List.length_append]
    exact this
   ·have hev:evOf m s (jf m s ⟨0,P,e,0⟩) i ⟨0,P,e,0⟩ E=none:=by
     unfold evOf
     rw [if_neg (by simp),if_neg (by simp),hte,if_neg h2,if_neg h3]
    have:=jtz m s (jf m s ⟨0,P,e,0⟩) E i P e hP he h2 h3
    rw [hev,show (none:Option Ev).toList=[] from rfl,List.append_nil]
    exact this
theorem qwe (x:AV):Le x .any:=Le.any _
theorem jub (m:Md) (hM:ModOk m) (s:Stt) (hf:qq m s=true) (l:List Mv) (i:Nat) (hi:i<l.length) (h:qan m s (l.getD i {})=true) (E:List Ev) (hE:E.length≤1000000) (hW:qcy m s E) :
  Trip Tryz.prog 48 [iv i,s.av,(jf m s (l.getD i {})).av,.ptr 0 0,.ptr 4 0] [boxG m E.length,rowE E,rowW m E,famW m E,.box 23 [qlh l]] (.tup [])
   [(0,boxG m (E++(evOf m s (jf m s (l.getD i {})) i (l.getD i {}) E).toList).length),(1,rowE (E++(evOf m s (jf m s (l.getD i {})) i (l.getD i {}) E).toList)),(2,rowW m (E++(evOf m s (jf m s (l.getD i {})) i (l.getD i {}) E).toList)),(3,famW m (E++(evOf m s (jf m s (l.getD i {})) i (l.getD i {}) E).toList)),(4,.box 23 [qlh l])] 5:=by
 have ht:=jua m hM s hf (l.getD i {}) h E hE i hW
 generalize jf m s (l.getD i {})=t at ht ⊢
 generalize E++(evOf m s t i (l.getD i {}) E).toList=E' at ht ⊢
 unfold boxG rowE rowW famW at *
 refine zL {} 300 Tryz.func48 (fun c0 rdb mpb=>?_)
 ((conv=>whnf);refine zQ 300 ?_)
 (repeat' ((conv=>whnf);first|refine Ob.auto ?_|fail))
 ((conv=>whnf);refine CallY.trip [0,1,2,3] (ht) (by kernel_rfl) leA qa (by exact qcz ⟨fun _ _=>rfl,trivial⟩) (by exact qcz ⟨fun _ _=>rfl,trivial⟩) ?_)
 (repeat' ((conv=>whnf);first|refine zA ?_|fail))
 exact ⟨Le.refl _,SoLe.refl _,SoLe.refl _,SoLe.refl _,SoLe.refl _,SoLe.refl _,trivial⟩
theorem juc (m:Md) (hM:ModOk m) (h0:qq m (qbo m)=true) (l:List Mv) (hl:l.length≤1000000):Trip Tryz.prog 47 [m.av,qlh l,.fn 48 [.ptr 0 0,.ptr 2 0]]
  [.box 111 (m.cells++[.nils,.own 1 0 0 m.chans.length]),.row [] 28 1 0 m.chans.length (fun _=>[.nils]),.box 23 [qlh l]] (.tup [(stN m l (nF m l)).av,iv (nF m l)]) [(0,.box 111 (m.cells++[.own 6 0 0 (qdl m l).length,.any])),(6,.row [] 40 6 0 (qdl m l).length (encL Ev.cells {} (qdl m l)))] 7:=by
 refine zL {} 300 Tryz.func47 (fun c0 rdb mpb=>?_)
 (repeat' ((conv=>whnf);first|refine zC 300 (jtq m hM.ok) ?_|fail))
 refine qec 0 7 40 6 rfl rfl ?_
 refine qzj 1 3 1 rfl (fun _ _=>rfl) ?_
 ((conv=>whnf);refine qm (fun _=>rfl) 300 1 (fun i:Nat=>[(17,iv i)]) (fun i=>[(5,.box 76 (stN m l i).cells),(0,.box 111 (m.cells++[.own 6 0 0 (evN m l i).length,.own 1 0 0 m.chans.length])),(6,.row [] 40 6 0 (evN m l i).length (encL Ev.cells {} (evN m l i))),(1,.row [7] 28 1 0 m.chans.length (fun k=>[.own 7 k (jq (evN m l i) k) (qw (evN m l i) k).length])),(7,.fam 3 1 m.chans.length (fun k=>jq (evN m l i) k) (fun k=>(qw (evN m l i) k).length) (fun k=>encL (fun n:Nat=>[iv n]) 0 (qw (evN m l i) k)))]) (fun i=>i≤l.length∧∀ j,j<i→okN m l j=true) (fun i=>l.length - i) (0) (⟨Nat.zero_le _,fun j hj=>absurd hj (Nat.not_lt_zero j)⟩) qa ⟨⟨rfl,Le.refl _,Le.refl _,Le.refl _,Le.refl _,trivial⟩,⟨rfl,LeL.refl _⟩,qbz (fun k hk=>absurd hk (Nat.not_lt_zero k)),qbz (fun _ _=>rfl),qfx (fun _ _=>rfl) (fun _ _=>rfl) (fun k j _ hj=>absurd hj (Nat.not_lt_zero j)),trivial⟩ (fun _=>rfl) (by kernel_rfl) ?_;(conv=>whnf))
 rintro i ⟨hi,hp⟩
 have hf:=qnr hM h0 hp
 have hW:=jeq hM h0 hp
 have hE:=qqv m l i
 by_cases hok:okN m l i=true
 ·have hdo:=jtr hM hf hok
  (repeat' ((conv=>whnf);first|refine Ob.auto ?_|refine zC 300 (hdo) ?_|(apply zB <;> intro hb <;> (try simp [-List.getD_eq_getElem?_getD] at hb) <;> try (exfalso;omega))))
  ·have hil:i<l.length:=by omega
   have ht:=jub m hM (stN m l i) hf l i hil hok (evN m l i) (by omega) hW
   unfold boxG rowE rowW famW at ht
   ((conv=>whnf);refine qdd (fun _=>rfl) 300 [0,6,1,7,2] (ht) (by kernel_rfl) leA qa (by exact qcz ⟨fun _ _=>rfl,trivial⟩) (by exact qcz ⟨fun _ _=>rfl,trivial⟩) (by kernel_rfl) ?_)
   (repeat' ((conv=>whnf);first|refine Ob.auto ?_|fail))
   ((conv=>whnf);refine ⟨i+1,⟨by omega,qaw hp hok⟩,⟨qa,⟨SoLe.refl _,SoLe.refl _,SoLe.refl _,SoLe.refl _,SoLe.refl _,trivial⟩⟩,⟨qa,qa⟩,?_⟩;(first|omega|(dsimp only;omega)|skip))
  ·obtain rfl:i=l.length:=by omega
   have hn:nF m l=l.length:=qqu hi hp (.inl rfl)
   rw [show qdl m l=evN m l l.length from by unfold qdl;rw [hn],hn]
   exact ⟨Le.tup ⟨Le.refl _,Le.refl _,trivial⟩,⟨rfl,Le.refl _,Le.refl _,Le.refl _,Le.refl _,Le.refl _,Le.refl _,Le.refl _,Le.refl _,qwe _,trivial⟩,SoLe.refl _,trivial⟩
 ·have hdo:=jts hM hf (Bool.not_eq_true _ ▸ hok)
  (repeat' ((conv=>whnf);first|refine Ob.auto ?_|refine zC 300 (hdo) ?_|(apply zB <;> intro hb <;> (try simp [-List.getD_eq_getElem?_getD] at hb) <;> try (exfalso;omega))))
  ·have hn:nF m l=i:=qqu hi hp (.inr (Bool.not_eq_true _ ▸ hok))
   rw [show qdl m l=evN m l i from by unfold qdl;rw [hn],hn]
   exact ⟨Le.tup ⟨Le.refl _,Le.refl _,trivial⟩,⟨rfl,Le.refl _,Le.refl _,Le.refl _,Le.refl _,Le.refl _,Le.refl _,Le.refl _,Le.refl _,qwe _,trivial⟩,SoLe.refl _,trivial⟩
  ·obtain rfl:i=l.length:=by omega
   have hn:nF m l=l.length:=qqu hi hp (.inl rfl)
   rw [show qdl m l=evN m l l.length from by unfold qdl;rw [hn],hn]
   exact ⟨Le.tup ⟨Le.refl _,Le.refl _,trivial⟩,⟨rfl,Le.refl _,Le.refl _,Le.refl _,Le.refl _,Le.refl _,Le.refl _,Le.refl _,Le.refl _,qwe _,trivial⟩,SoLe.refl _,trivial⟩
theorem jud (m:Md) (hM:ModOk m) (h0:qq m (qbo m)=true) (l:List Mv) (hl:l.length≤1000000):Con Tryz.prog 23 [m.av,qlh l] (evsV (qdl m l)):=by
 have hz:=hM.sz
 refine zK {} 300 Tryz.func23 (fun c0 rdb=>?_)
 (repeat' ((conv=>whnf);first|refine zO ?_|refine Ob.auto ?_|(refine Ob.intro (by (first|exact ⟨by omega,by omega⟩|(refine ⟨by omega,by omega,by omega,?_⟩;dsimp only;refine Int.le_trans (Int.mul_le_mul_of_nonneg_right (?_:_≤(4000001:Int)) (Int.natCast_nonneg _)) (by decide +kernel);omega))) ?_)|refine zD 300 ?_|fail))
 ((conv=>whnf);refine zT 300 [8,6,1] (juc m hM h0 l hl) (?_) ?_)
 ·exact ⟨⟨rfl,LeL.refl _⟩,qbz (fun k _=>by kernel_rfl),SoLe.refl _,trivial⟩
 (repeat' ((conv=>whnf);first|refine Ob.auto ?_|fail))
 exact Le.refl _
end Go.Proofs.YtcfllgdfhfcicaaGreatDoor
end
section
namespace Go.Proofs.YtcfllgdfhfcicaaGreatDoor
open Go Go.Sx Go.RowKit
set_option maxRecDepth 100000
theorem qrd (ws:List (List UInt8)) (h0:0<ws.length) (hN:ws.length≤1000) (hl:(Lib.join ws [32]).length≤140737488355328):Con Tryz.prog 27 [strs ws,.str [32]] (.str (Lib.join ws [32])):=by
 refine qrb Tryz.func27 rfl (by kernel_rfl) [strs ws,.str [32]] _ fun rd w vs hm ha=>?_
 obtain ⟨a,b,rfl,h1,h2⟩:=qny ha
 obtain rfl:=qhq h2
 obtain ⟨g,o,c,val,rfl,hc,hg,hv⟩:=jta hm h1 h0
 have e:(ws.map fun s=>(⟨s.toArray⟩:ByteArray)).map (·.data.toList)=ws:=by
  rw [List.map_map]
  exact (List.map_congr_left fun x _=>rfl).trans (List.map_id _)
 have h:=Any.strings_Join Tryz.lays156 Tryz.Builder_Extra_156 g o c (ws.map fun s=>(⟨s.toArray⟩:ByteArray)) ⟨#[32]⟩ w (fun j x hx=>by
  rw [List.getElem?_map] at hx
  obtain ⟨s,hs,rfl⟩:=Option.map_eq_some_iff.1 hx
  have hj:=(List.getElem?_eq_some_iff.1 hs).1
  obtain ⟨hcell,hrel⟩:=hv j hj
  have:=qhq (hrel (.str (ws.getD j [])) rfl)
  rw [hcell,this,List.getD_eq_getElem?_getD,hs]
  rfl) hg (by simp;omega) (by simpa using hc) (by rw [e];exact hl)
 rw [e,List.length_map] at h
 exact h.mono fun x w' ⟨he,hb⟩=>⟨_,he,.str _ _,hb⟩
end Go.Proofs.YtcfllgdfhfcicaaGreatDoor
end
section
namespace Go.Proofs.YtcfllgdfhfcicaaGreatDoor
open List renaming getD_eq_getElem?_getD → zd
open Go Go.Sx Go.RowKit Go.St
set_option maxRecDepth 100000
set_option maxHeartbeats 4000000
def ws0 (m:Md) (i:Nat) (e:Ev):List (List UInt8):=[Lib.itoa i,whoT m e.prc,qcd e.kind,(m.chans.getD e.ch.toNat ch0).name,Lib.itoa e.msg]
def ws1 (m:Md) (i:Nat) (e:Ev):List (List UInt8):=[Lib.itoa i,whoT m e.prc,qcd e.kind,(m.chans.getD e.ch.toNat ch0).name,Lib.itoa e.msg,[111,102],Lib.itoa e.frm]
theorem jfn (m:Md) (i:Nat) (e:Ev) (h:e.kind=0):Lib.join (ws0 m i e) [32]++[10]=qbb m i e:=by
 unfold qbb ws0
 simp [Lib.join,h]
theorem jfo (m:Md) (i:Nat) (e:Ev) (h:¬ e.kind=0):Lib.join (ws1 m i e) [32]++[10]=qbb m i e:=by
 unfold qbb ws1
 simp [Lib.join,h]
def jfp:Nat→Bool
 | 0=>false
 | _+1=>true
theorem jue (m:Md) (hM:ModOk m) (hn:NmOk m) (h0:qq m (qbo m)=true) (l:List Mv) (hl:l.length≤1000000):Con Tryz.prog 9 [m.av,qlh l] (.str (qnx m (qdl m l))):=by
 have hev:=jud m hM h0 l hl
 obtain ⟨hE,hEl⟩:=jsv hM h0 hl
 generalize qdl m l=E at hev hE hEl ⊢
 have hE0:E.length≤1000000:=Nat.le_trans hEl hl
 refine zK {owns:=[(37,(9,1))]} 300 Tryz.func9 (fun c0 rdb=>?_)
 (repeat' ((conv=>whnf);first|refine zC 300 (hev) ?_|fail))
 refine qec 1 1 5 1 rfl rfl ?_
 ((conv=>whnf);refine qm (fun _=>rfl) 300 1 (fun i:Nat=>[(13,iv i)]) (fun i=>[(1,.box 59 [bif jfp i then .ptr 1 0 else .nilp,.own 2 0 0 (qbk m E i).length]),(2,.row [] 5 1 0 (qbk m E i).length (bytF (qbk m E i)))]) (fun i=>i≤E.length) (fun i=>E.length - i) (0) (Nat.zero_le _) qa ⟨⟨rfl,Le.refl _,Le.refl _,trivial⟩,⟨⟨rfl,rfl,rfl⟩,rfl,rfl,fun k hk=>absurd hk (Nat.not_lt_zero k)⟩,trivial⟩ (fun g=>by cases g <;> rfl) (by kernel_rfl) ?_;(conv=>whnf))
 intro i hi
 cases hu:jfp i
 ·have hl1:=qra hn hE hE0 i (by omega)
  by_cases hie:i<E.length
  ·have he:=hE _ (qj E i {} hie)
   have hl2:=qqz hn he i (by omega)
   have c1:=qhr (i:Int) (by omega) (by omega)
   have c2:=qnz m hM hn (E.getD i {}).prc
   have c3:=qwc (E.getD i {}).kind
   have c4:=qhr (E.getD i {}).msg (by have:=he.msg;omega) (by have:=he.msg;omega)
   have c5:=qhr (E.getD i {}).frm (by have:=he.frm;omega) (by have:=he.frm;omega)
   have k1:=he.chn
   have k2:=he.kind
   have hk:(E.getD i {}).kind=0∨¬ (E.getD i {}).kind=0:=by omega
   rcases hk with hk|hk
   ·(repeat' ((conv=>whnf);first|refine Ob.auto ?_|(apply zB <;> intro hb <;> (try simp [-zd] at hb) <;> try (exfalso;omega))))
    ((conv=>whnf);refine zR 300 ?_)
    (repeat' ((conv=>whnf);first|refine zO ?_|refine Ob.auto ?_|refine zX (c1) ?_|refine zX (c2) ?_|refine zX (c3) ?_|refine zX (c4) ?_|(apply zB <;> intro hb <;> (try simp [-zd] at hb) <;> try (exfalso;omega))))
    have hj:=jfn m i (E.getD i {}) hk
    have hjl:=congrArg List.length hj
    rw [List.length_append,List.length_singleton] at hjl
    ((conv=>whnf);refine qlw (fun _=>rfl) 300 (qrd (ws0 m i (E.getD i {})) (by simp [ws0]) (by simp [ws0]) (by omega)) qkt ⟨Le.slc rfl (fun k hk=>?_),Le.refl _,trivial⟩ (by rfl) (by kernel_rfl) ?_)
    ·(iterate 7 (rcases k with _|k;· first|rfl|(exfalso;omega)));exfalso;omega
    have e1:Lib.join (ws0 m i (E.getD i {})) [32]++[10]=qbb m i (E.getD i {}):=hj
    generalize Lib.join (ws0 m i (E.getD i {})) [32]=J at hjl e1 ⊢
    (repeat' ((conv=>whnf);first|(refine Ob.intro (by (first|exact ⟨by omega,by omega⟩|(show _≤(9223372036854775807:Nat);simp [-zd];omega))) ?_)|fail))
    rw [show J++(⟨#[10]⟩:ByteArray).data.toList=J++[10] from rfl,e1]
    ((conv=>whnf);refine qdd (fun _=>rfl) 300 [1,2] (qrc false (qbk m E i) (qbb m i (E.getD i {})) (by omega) (by omega)) (by kernel_rfl) ⟨Le.refl _,Le.refl _,trivial⟩ ⟨⟨rfl,Le.refl _,Le.refl _,trivial⟩,⟨⟨rfl,rfl,rfl⟩,rfl,rfl,fun k hk=>LeL.refl _⟩,trivial⟩ (by exact qb rfl) (by exact qb rfl) (by kernel_rfl) ?_)
    (repeat' ((conv=>whnf);first|refine Ob.auto ?_|fail))
    have e2:=(qjw m E i).symm
    generalize qbk m E i++qbb m i (E.getD i {})=J2 at e2 ⊢
    subst e2
    ((conv=>whnf);refine ⟨i+1,by omega,⟨qa,⟨⟨rfl,Le.refl _,Le.refl _,trivial⟩,⟨⟨rfl,rfl,rfl⟩,rfl,rfl,fun k hk=>LeL.refl _⟩,trivial⟩⟩,⟨qa,qa⟩,?_⟩;(first|omega|(dsimp only;omega)|skip))
   ·(repeat' ((conv=>whnf);first|refine Ob.auto ?_|(apply zB <;> intro hb <;> (try simp [-zd] at hb) <;> try (exfalso;omega))))
    ((conv=>whnf);refine zR 300 ?_)
    (repeat' ((conv=>whnf);first|refine zO ?_|refine Ob.auto ?_|refine zX (c1) ?_|refine zX (c2) ?_|refine zX (c3) ?_|refine zX (c4) ?_|refine zC 300 (c5) ?_|(apply zB <;> intro hb <;> (try simp [-zd] at hb) <;> try (exfalso;omega))))
    have hj:=jfo m i (E.getD i {}) hk
    have hjl:=congrArg List.length hj
    rw [List.length_append,List.length_singleton] at hjl
    ((conv=>whnf);refine qlw (fun _=>rfl) 300 (qrd (ws1 m i (E.getD i {})) (by simp [ws1]) (by simp [ws1]) (by omega)) qkt ⟨Le.slc rfl (fun k hk=>?_),Le.refl _,trivial⟩ (by rfl) (by kernel_rfl) ?_)
    ·(iterate 7 (rcases k with _|k;· first|rfl|(exfalso;omega)));exfalso;omega
    have e1:Lib.join (ws1 m i (E.getD i {})) [32]++[10]=qbb m i (E.getD i {}):=hj
    generalize Lib.join (ws1 m i (E.getD i {})) [32]=J at hjl e1 ⊢
    (repeat' ((conv=>whnf);first|(refine Ob.intro (by (first|exact ⟨by omega,by omega⟩|(show _≤(9223372036854775807:Nat);simp [-zd];omega))) ?_)|fail))
    rw [show J++(⟨#[10]⟩:ByteArray).data.toList=J++[10] from rfl,e1]
    ((conv=>whnf);refine qdd (fun _=>rfl) 300 [1,2] (qrc false (qbk m E i) (qbb m i (E.getD i {})) (by omega) (by omega)) (by kernel_rfl) ⟨Le.refl _,Le.refl _,trivial⟩ ⟨⟨rfl,Le.refl _,Le.refl _,trivial⟩,⟨⟨rfl,rfl,rfl⟩,rfl,rfl,fun k hk=>LeL.refl _⟩,trivial⟩ (by exact qb rfl) (by exact qb rfl) (by kernel_rfl) ?_)
    (repeat' ((conv=>whnf);first|refine Ob.auto ?_|fail))
    have e2:=(qjw m E i).symm
    generalize qbk m E i++qbb m i (E.getD i {})=J2 at e2 ⊢
    subst e2
    ((conv=>whnf);refine ⟨i+1,by omega,⟨qa,⟨⟨rfl,Le.refl _,Le.refl _,trivial⟩,⟨⟨rfl,rfl,rfl⟩,rfl,rfl,fun k hk=>LeL.refl _⟩,trivial⟩⟩,⟨qa,qa⟩,?_⟩;(first|omega|(dsimp only;omega)|skip))
  ·(repeat' ((conv=>whnf);first|(apply zB <;> intro hb <;> (try simp [-zd] at hb) <;> try (exfalso;omega))))
   ((conv=>whnf);refine qdd (fun _=>rfl) 300 [1,2] (jfk 0 (bif false then .ptr 0 0 else .nilp) (qbk m E i)) (by kernel_rfl) ⟨Le.refl _,trivial⟩ ⟨⟨rfl,Le.refl _,Le.refl _,trivial⟩,⟨⟨rfl,rfl,rfl⟩,rfl,rfl,fun k hk=>LeL.refl _⟩,trivial⟩ (by exact qb rfl) (by exact qb rfl) (by kernel_rfl) ?_)
   (repeat' ((conv=>whnf);first|refine Ob.auto ?_|fail))
   rw [show i=E.length by omega]
   exact Le.refl _
 ·have hl1:=qra hn hE hE0 i (by omega)
  by_cases hie:i<E.length
  ·have he:=hE _ (qj E i {} hie)
   have hl2:=qqz hn he i (by omega)
   have c1:=qhr (i:Int) (by omega) (by omega)
   have c2:=qnz m hM hn (E.getD i {}).prc
   have c3:=qwc (E.getD i {}).kind
   have c4:=qhr (E.getD i {}).msg (by have:=he.msg;omega) (by have:=he.msg;omega)
   have c5:=qhr (E.getD i {}).frm (by have:=he.frm;omega) (by have:=he.frm;omega)
   have k1:=he.chn
   have k2:=he.kind
   have hk:(E.getD i {}).kind=0∨¬ (E.getD i {}).kind=0:=by omega
   rcases hk with hk|hk
   ·(repeat' ((conv=>whnf);first|refine Ob.auto ?_|(apply zB <;> intro hb <;> (try simp [-zd] at hb) <;> try (exfalso;omega))))
    ((conv=>whnf);refine zR 300 ?_)
    (repeat' ((conv=>whnf);first|refine zO ?_|refine Ob.auto ?_|refine zX (c1) ?_|refine zX (c2) ?_|refine zX (c3) ?_|refine zX (c4) ?_|(apply zB <;> intro hb <;> (try simp [-zd] at hb) <;> try (exfalso;omega))))
    have hj:=jfn m i (E.getD i {}) hk
    have hjl:=congrArg List.length hj
    rw [List.length_append,List.length_singleton] at hjl
    ((conv=>whnf);refine qlw (fun _=>rfl) 300 (qrd (ws0 m i (E.getD i {})) (by simp [ws0]) (by simp [ws0]) (by omega)) qkt ⟨Le.slc rfl (fun k hk=>?_),Le.refl _,trivial⟩ (by rfl) (by kernel_rfl) ?_)
    ·(iterate 7 (rcases k with _|k;· first|rfl|(exfalso;omega)));exfalso;omega
    have e1:Lib.join (ws0 m i (E.getD i {})) [32]++[10]=qbb m i (E.getD i {}):=hj
    generalize Lib.join (ws0 m i (E.getD i {})) [32]=J at hjl e1 ⊢
    (repeat' ((conv=>whnf);first|(refine Ob.intro (by (first|exact ⟨by omega,by omega⟩|(show _≤(9223372036854775807:Nat);simp [-zd];omega))) ?_)|fail))
    rw [show J++(⟨#[10]⟩:ByteArray).data.toList=J++[10] from rfl,e1]
    ((conv=>whnf);refine qdd (fun _=>rfl) 300 [1,2] (qrc true (qbk m E i) (qbb m i (E.getD i {})) (by omega) (by omega)) (by kernel_rfl) ⟨Le.refl _,Le.refl _,trivial⟩ ⟨⟨rfl,Le.refl _,Le.refl _,trivial⟩,⟨⟨rfl,rfl,rfl⟩,rfl,rfl,fun k hk=>LeL.refl _⟩,trivial⟩ (by exact qb rfl) (by exact qb rfl) (by kernel_rfl) ?_)
    (repeat' ((conv=>whnf);first|refine Ob.auto ?_|fail))
    have e2:=(qjw m E i).symm
    generalize qbk m E i++qbb m i (E.getD i {})=J2 at e2 ⊢
    subst e2
    ((conv=>whnf);refine ⟨i+1,by omega,⟨qa,⟨⟨rfl,Le.refl _,Le.refl _,trivial⟩,⟨⟨rfl,rfl,rfl⟩,rfl,rfl,fun k hk=>LeL.refl _⟩,trivial⟩⟩,⟨qa,qa⟩,?_⟩;(first|omega|(dsimp only;omega)|skip))
   ·(repeat' ((conv=>whnf);first|refine Ob.auto ?_|(apply zB <;> intro hb <;> (try simp [-zd] at hb) <;> try (exfalso;omega))))
    ((conv=>whnf);refine zR 300 ?_)
    (repeat' ((conv=>whnf);first|refine zO ?_|refine Ob.auto ?_|refine zX (c1) ?_|refine zX (c2) ?_|refine zX (c3) ?_|refine zX (c4) ?_|refine zC 300 (c5) ?_|(apply zB <;> intro hb <;> (try simp [-zd] at hb) <;> try (exfalso;omega))))
    have hj:=jfo m i (E.getD i {}) hk
    have hjl:=congrArg List.length hj
    rw [List.length_append,List.length_singleton] at hjl
    ((conv=>whnf);refine qlw (fun _=>rfl) 300 (qrd (ws1 m i (E.getD i {})) (by simp [ws1]) (by simp [ws1]) (by omega)) qkt ⟨Le.slc rfl (fun k hk=>?_),Le.refl _,trivial⟩ (by rfl) (by kernel_rfl) ?_)
    ·(iterate 7 (rcases k with _|k;· first|rfl|(exfalso;omega)));exfalso;omega
    have e1:Lib.join (ws1 m i (E.getD i {})) [32]++[10]=qbb m i (E.getD i {}):=hj
    generalize Lib.join (ws1 m i (E.getD i {})) [32]=J at hjl e1 ⊢
    (repeat' ((conv=>whnf);first|(refine Ob.intro (by (first|exact ⟨by omega,by omega⟩|(show _≤(9223372036854775807:Nat);simp [-zd];omega))) ?_)|fail))
    rw [show J++(⟨#[10]⟩:ByteArray).data.toList=J++[10] from rfl,e1]
    ((conv=>whnf);refine qdd (fun _=>rfl) 300 [1,2] (qrc true (qbk m E i) (qbb m i (E.getD i {})) (by omega) (by omega)) (by kernel_rfl) ⟨Le.refl _,Le.refl _,trivial⟩ ⟨⟨rfl,Le.refl _,Le.refl _,trivial⟩,⟨⟨rfl,rfl,rfl⟩,rfl,rfl,fun k hk=>LeL.refl _⟩,trivial⟩ (by exact qb rfl) (by exact qb rfl) (by kernel_rfl) ?_)
    (repeat' ((conv=>whnf);first|refine Ob.auto ?_|fail))
    have e2:=(qjw m E i).symm
    generalize qbk m E i++qbb m i (E.getD i {})=J2 at e2 ⊢
    subst e2
    ((conv=>whnf);refine ⟨i+1,by omega,⟨qa,⟨⟨rfl,Le.refl _,Le.refl _,trivial⟩,⟨⟨rfl,rfl,rfl⟩,rfl,rfl,fun k hk=>LeL.refl _⟩,trivial⟩⟩,⟨qa,qa⟩,?_⟩;(first|omega|(dsimp only;omega)|skip))
  ·(repeat' ((conv=>whnf);first|(apply zB <;> intro hb <;> (try simp [-zd] at hb) <;> try (exfalso;omega))))
   ((conv=>whnf);refine qdd (fun _=>rfl) 300 [1,2] (jfk 0 (bif true then .ptr 0 0 else .nilp) (qbk m E i)) (by kernel_rfl) ⟨Le.refl _,trivial⟩ ⟨⟨rfl,Le.refl _,Le.refl _,trivial⟩,⟨⟨rfl,rfl,rfl⟩,rfl,rfl,fun k hk=>LeL.refl _⟩,trivial⟩ (by exact qb rfl) (by exact qb rfl) (by kernel_rfl) ?_)
   (repeat' ((conv=>whnf);first|refine Ob.auto ?_|fail))
   rw [show i=E.length by omega]
   exact Le.refl _
end Go.Proofs.YtcfllgdfhfcicaaGreatDoor
end
section
namespace Go.Proofs.YtcfllgdfhfcicaaGreatDoor
open Go Go.Sx Go.RowKit Go.St
set_option maxRecDepth 100000
set_option maxHeartbeats 8000000
theorem juf (l:List Nd) (hl:l.length≤9223372036854775807) (hz:∀ n∈l,NdSz n):Con Tryz.prog 8 [jl l] (.tup [(qcx l).1.av,.bool (qcx l).2]):=by
 have hm:Tree l→Con Tryz.prog 20 [jl l] (.tup [(if (qbq l).1=0 then qeh l else mdZ).av,.bool (decide ((qbq l).1=0))]):=fun ht=>by
  by_cases h:(qbq l).1=0
  ·rw [if_pos h,decide_eq_true h];exact jdo l ht h
  ·rw [if_neg h,decide_eq_false h];exact jrg l ht h
 refine zK {} 300 Tryz.func8 (fun c0 rdb=>?_)
 (repeat' ((conv=>whnf);first|refine Ob.auto ?_|refine zC 300 (jqc l hl) ?_|refine zG 300 (fun hg=>jqb l hl hz) ?_|(apply zB <;> intro hb <;> (try simp [-List.getD_eq_getElem?_getD] at hb) <;> try (exfalso;omega))))
 ·have e:qcx l=(mdZ,false):=if_neg fun h=>by
   rcases hb with hb|hb
   ·omega
   ·rw [hb] at h;simp at h
  rw [e]
  exact Le.tup ⟨jdp,Le.refl _,trivial⟩
 ·((conv=>whnf);refine qdz (fun _=>rfl) 300 (hm (qql hb.2)) (by rfl) leA (by kernel_rfl) ?_)
  (repeat' ((conv=>whnf);first|refine Ob.auto ?_|fail))
  have e:qcx l=(if (qbq l).1=0 then qeh l else mdZ,decide ((qbq l).1=0)):=by
   unfold qcx
   by_cases h:(qbq l).1=0
   ·rw [if_pos ⟨hb,h⟩,if_pos h,decide_eq_true h]
   ·rw [if_neg (fun g=>h g.2),if_neg h,decide_eq_false h]
  rw [e]
  exact Le.refl _
end Go.Proofs.YtcfllgdfhfcicaaGreatDoor
end
