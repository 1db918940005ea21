/- Some texts of the library, one behind the other. -/
import Derived.Test.YtcfllgdfhfcicaaGreatDoorQ36
import Derived.Test.YtcfllgdfhfcicaaGreatDoorQ2
import Derived.Test.YtcfllgdfhfcicaaGreatDoorChecked
import Derived.Test.YtcfllgdfhfcicaaGreatDoorQ3
import Derived.Test.YtcfllgdfhfcicaaGreatDoorQ29
import Derived.Test.YtcfllgdfhfcicaaGreatDoorQ28
import Derived.Test.YtcfllgdfhfcicaaGreatDoorQ34
import Derived.Test.YtcfllgdfhfcicaaGreatDoorQ27
section
namespace Go.Proofs.YtcfllgdfhfcicaaGreatDoor
open List renaming getD_eq_getElem?_getD → zd
open Go Go.Sx Go.RowKit Go.St
set_option maxRecDepth 100000
set_option maxHeartbeats 4000000
theorem qry (n:Int) (h0:-9223372036854775807≤n) (h1:n≤9223372036854775807):Con Tryz.prog 29 [iv n] (.str (Lib.itoa n)):=by
 have h:=jtr n h0 h1
 refine zK {} 300 Tryz.func29 (fun c0 rdb=>?_)
 (repeat' ((conv=>whnf);first|refine Ob.auto ?_|refine zC 300 (h) ?_|fail))
 exact Le.refl _
theorem qrz (m:Md) (hM:ModOk m) (hn:NmOk m) (p:Int):Con Tryz.prog 11 [m.av,iv p] (.str (whoT m p)):=by
 refine zK {} 300 Tryz.func11 (fun c0 rdb=>?_)
 by_cases hp:0≤p∧p<m.procs.length
 ·have hq:=hn.proc _ (qh m.procs p.toNat pr0 (by omega))
  have hl:=Lib.itoa_length_le (m.procs.getD p.toNat pr0).copy (by omega) (by omega)
  have hc:=qkp (m.procs.getD p.toNat pr0).copy (by omega) (by omega)
  (repeat' ((conv=>whnf);first|refine zO ?_|refine Ob.auto ?_|(refine Ob.intro (by (first|exact ⟨by omega,by omega⟩|(show _≤(9223372036854775807:Nat);simp [-zd];omega))) ?_)|refine zX (hc) ?_|(refine zR 300 ?_)|(apply zB <;> intro hb <;> (try simp [-zd] at hb) <;> try (exfalso;omega))))
  unfold whoT
  rw [if_pos hp]
  exact Le.refl _
 ·(repeat' ((conv=>whnf);first|refine Ob.auto ?_|(apply zB <;> intro hb <;> (try simp [-zd] at hb) <;> try (exfalso;omega))))
  unfold whoT
  rw [if_neg hp]
  exact Le.refl _
theorem jfw (k:Int):Con Tryz.prog 25 [iv k] (.str (qjd k)):=by
 refine zK {} 300 Tryz.func25 (fun c0 rdb=>?_)
 (repeat' ((conv=>whnf);first|refine Ob.auto ?_|(apply zB <;> intro hb <;> (try simp [-zd] at hb) <;> try (exfalso;omega))))
 ·subst hb;exact Le.refl _
 ·subst hb;exact Le.refl _
 ·subst hb;exact Le.refl _
 ·subst hb;exact Le.refl _
 ·unfold qjd
  rw [if_neg (by omega),if_neg (by omega),if_neg (by omega),if_neg (by omega)]
  exact Le.refl _
theorem jfx (m:Md) (hM:ModOk m) (hn:NmOk m) (p:Int):Con Tryz.prog 12 [m.av,iv p] (.str (whoT m p)):=by
 refine zK {} 300 Tryz.func12 (fun c0 rdb=>?_)
 by_cases hp:0≤p∧p<m.procs.length
 ·have hq:=hn.proc _ (qh m.procs p.toNat pr0 (by omega))
  have hl:=Lib.itoa_length_le (m.procs.getD p.toNat pr0).copy (by omega) (by omega)
  have hc:=qry (m.procs.getD p.toNat pr0).copy (by omega) (by omega)
  (repeat' ((conv=>whnf);first|refine zO ?_|refine Ob.auto ?_|(refine Ob.intro (by (first|exact ⟨by omega,by omega⟩|(show _≤(9223372036854775807:Nat);simp [-zd];omega))) ?_)|refine zX (hc) ?_|(refine zR 300 ?_)|(apply zB <;> intro hb <;> (try simp [-zd] at hb) <;> try (exfalso;omega))))
  unfold whoT
  rw [if_pos hp]
  exact Le.refl _
 ·(repeat' ((conv=>whnf);first|refine Ob.auto ?_|(apply zB <;> intro hb <;> (try simp [-zd] at hb) <;> try (exfalso;omega))))
  unfold whoT
  rw [if_neg hp]
  exact Le.refl _
theorem jtu (k:Int) (h:0≤k∧k≤3):Con Tryz.prog 38 [iv k] (.str (qjd k)):=by
 rcases (show k=0∨k=1∨k=2∨k=3 by omega) with rfl|rfl|rfl|rfl
 ·refine zK {lit:=true} 300 Tryz.func38 (fun c0 rdb=>?_)
  (repeat' ((conv=>whnf);first|refine Ob.auto ?_|fail))
  exact Le.refl _
 ·refine zK {lit:=true} 300 Tryz.func38 (fun c0 rdb=>?_)
  (repeat' ((conv=>whnf);first|refine Ob.auto ?_|fail))
  exact Le.refl _
 ·refine zK {lit:=true} 300 Tryz.func38 (fun c0 rdb=>?_)
  (repeat' ((conv=>whnf);first|refine Ob.auto ?_|fail))
  exact Le.refl _
 ·refine zK {lit:=true} 300 Tryz.func38 (fun c0 rdb=>?_)
  (repeat' ((conv=>whnf);first|refine Ob.auto ?_|fail))
  exact Le.refl _
theorem jtv (m:Md) (hM:ModOk m) (hn:NmOk m) (i:Nat) (hi:i≤1000000) (e:Ev) (he:EvOk m e):Con Tryz.prog 18 [m.av,iv i,e.av] (.str (qbl m i e)):=by
 have h1:=Lib.itoa_length_le (i:Int) (by omega) (by omega)
 have h2:=jfp hn e.prc
 have h3:=jfq e.kind
 have h4:=hn.chan _ (qh m.chans e.ch.toNat ch0 (by have:=he.chn;omega))
 have h5:=Lib.itoa_length_le e.msg (by have:=he.msg;omega) (by have:=he.msg;omega)
 have h6:=Lib.itoa_length_le e.frm (by have:=he.frm;omega) (by have:=he.frm;omega)
 have c1:=qry (i:Int) (by omega) (by omega)
 have c2:=jfx m hM hn e.prc
 have c3:=jtu e.kind he.kind
 have c4:=qry e.msg (by have:=he.msg;omega) (by have:=he.msg;omega)
 have c5:=qry e.frm (by have:=he.frm;omega) (by have:=he.frm;omega)
 have k1:=he.chn
 have k2:=he.kind
 refine zK {} 300 Tryz.func18 (fun c0 rdb=>?_)
 have hb:e.kind=0∨¬ e.kind=0:=by omega
 rcases hb with hb|hb
 all_goals
  (repeat' ((conv=>whnf);first|refine zO ?_|refine Ob.auto ?_|(refine Ob.intro (by (first|exact ⟨by omega,by omega⟩|(show _≤(9223372036854775807:Nat);simp [-zd];omega))) ?_)|refine zX (c1) ?_|refine zX (c2) ?_|refine zX (c3) ?_|refine zX (c4) ?_|refine zC 300 (c5) ?_|(refine zR 300 ?_)|(apply zB <;> intro hb <;> (try simp [-zd] at hb) <;> try (exfalso;omega))))
  unfold qbl
  first|rw [if_pos (by omega:e.kind=0)]|rw [if_neg (by omega:¬ e.kind=0)]
  exact Le.of_eq (congrArg AV.str (by first|(simp only [List.append_assoc,List.nil_append];done)|(simp only [List.append_assoc,List.nil_append];rfl)))
theorem jtw (m:Md) (hM:ModOk m) (hn:NmOk m) (h0:ql m (qz m)=true) (l:List Mv) (hl:l.length≤1000000):Con Tryz.prog 10 [m.av,qcr l] (.str (qlz m (qbq m l))):=by
 have hev:=jtl m hM h0 l hl
 obtain ⟨hE,hEl⟩:=jfo hM h0 hl
 generalize qbq m l=E at hev hE hEl ⊢
 refine zK {} 300 Tryz.func10 (fun c0 rdb=>?_)
 (repeat' ((conv=>whnf);first|refine zC 300 (hev) ?_|fail))
 have hE0:E.length≤1000000:=Nat.le_trans hEl hl
 ((conv=>whnf);refine qp (fun _=>rfl) 300 1 (fun i:Nat=>[(5,.str (qbv m E i)),(7,iv i)]) (fun _=>[]) (fun i=>i≤E.length) (fun i=>E.length - i) (0) (Nat.zero_le _) qa qa (fun _=>rfl) (by kernel_rfl) ?_;(conv=>whnf))
 intro i hi
 have hl1:=qrx hn hE hE0 i (by omega)
 by_cases hie:i<E.length
 ·have he:=hE _ (qh E i {} hie)
  have hc:=jtv m hM hn i (by omega) (E.getD i {}) he
  have hl2:=qrw hn he i (by omega)
  (repeat' ((conv=>whnf);first|refine zO ?_|refine Ob.auto ?_|refine zX (hc) ?_|(refine zR 300 ?_)|(apply zB <;> intro hb <;> (try simp [-zd] at hb) <;> try (exfalso;omega))))
  ((conv=>whnf);refine ⟨i+1,by omega,⟨⟨Le.of_eq (congrArg AV.str (qma m E i).symm),Le.refl _,trivial⟩,trivial⟩,⟨qa,qa⟩,?_⟩;(first|omega|(dsimp only;omega)|skip))
 ·(repeat' ((conv=>whnf);first|refine Ob.auto ?_|(apply zB <;> intro hb <;> (try simp [-zd] at hb) <;> try (exfalso;omega))))
  rw [show i=E.length by omega]
  exact Le.refl _
end Go.Proofs.YtcfllgdfhfcicaaGreatDoor
end
section
namespace Go.Proofs.YtcfllgdfhfcicaaGreatDoor
open Go Go.RowKit Go.Lib Go.Sx
theorem jfz:(Tryz.prog.info? 59).map (·.size)=some 2:=by kernel_rfl
theorem qwu:Tryz.prog.underlying 56=some (.pointer 59):=by kernel_rfl
theorem jga:Tryz.prog.underlying 150=some .unsafePointer:=by kernel_rfl
theorem juc:(Tryz.prog.info? 5).map (fun i=>(i.zero,i.size,i.bytes))=some (some (.int .u8 0),1,1):=by kernel_rfl
theorem jud:liesAt Tryz.prog Tryz.prog.depth 59 (2 / Tryz.prog.cellsOf 59) 0 59 1=true:=by kernel_rfl
set_option maxHeartbeats 1000000 in
set_option maxRecDepth 100000 in
theorem jue (b:Nat) (w:World) (h0:w.cell? ⟨b,0,none⟩=some (.pointer (some ⟨b,0,none⟩))) :
  Calls Tryz.prog 51 #[.pointer (some ⟨b,0,none⟩)] w fun e w'=>e=.returned (.tuple #[])∧w'=w:=by
 obtain ⟨j,hj,_⟩:=Option.map_eq_some_iff.1 jfz
 go_enter Tryz.func51,Tryz.ntmps51
 go_wp2
 rw [Lib.run_neq_ptr_same w _ qwu hj]
 go_wp2
 go_end0
 exact ⟨rfl,rfl⟩
set_option maxHeartbeats 1000000 in
set_option maxRecDepth 100000 in
theorem juf (b:Nat) (w:World) (h0:w.cell? ⟨b,0,none⟩=some (.pointer none)) (hsh:w.shape? b=some (59,2)) (hfz:w.frozen? ⟨b,0,none⟩=false) :
  Calls Tryz.prog 51 #[.pointer (some ⟨b,0,none⟩)] w fun e w'=>e=.returned (.tuple #[])∧w'=w.setCell ⟨b,0,none⟩ (.pointer (some ⟨b,0,none⟩)):=by
 obtain ⟨j,hj,hjs⟩:=Option.map_eq_some_iff.1 jfz
 go_enter Tryz.func51,Tryz.ntmps51
 go_wp2
 rw [Lib.run_to_unsafe w ⟨b,0,none⟩ qwu jga hj (by rw [hjs];decide) hsh (Nat.zero_lt_succ 1)]
 simp only [Result.andThen]
 rw [Oper.upon_value]
 go_wp2
 rw [run_callFunc_extern Tryz.func92 (by kernel_rfl) (by kernel_rfl) (by kernel_rfl) (e:=Extern.AbiNoEscape.same) (by kernel_rfl)]
 rw [Lib.run_noEscape]
 simp only [Result.andThen]
 rw [Oper.upon_value]
 go_wp2
 rw [Lib.run_from_unsafe w ⟨b,0,none⟩ jga qwu hj hsh jud]
 simp only [Result.andThen]
 rw [Oper.upon_value]
 go_wp2
 go_end0
 exact ⟨rfl,rfl⟩
theorem jug (b:Nat) (used:Bool) (v:Value) (w:World) (hbk:w.heap[b]?=some (.cells #[.pointer (bif used then some ⟨b,0,none⟩ else none),v] 59 (0,0))) :
  Calls Tryz.prog 51 #[.pointer (some ⟨b,0,none⟩)] w fun e w'=>e=.returned (.tuple #[])∧w'=bif used then w else w.setCell ⟨b,0,none⟩ (.pointer (some ⟨b,0,none⟩)):=by
 have hc:w.cell? ⟨b,0,none⟩=some (.pointer (bif used then some ⟨b,0,none⟩ else none)):=by rw [Lib.cell_of_heap hbk];rfl
 cases used
 ·exact juf b w hc (by simp [World.shape?,hbk]) (Lib.frozen_of_heap hbk 0)
 ·exact jue b w hc
set_option maxHeartbeats 2000000 in
set_option maxRecDepth 100000 in
theorem juh (b:Nat) (used:Bool) (v:Value) (n:Nat) (xs:List Value) (s:ByteArray) (w:World)
  (hbk:w.heap[b]?=some (.cells #[.pointer (bif used then some ⟨b,0,none⟩ else none),v] 59 (0,0))) (hown:Owns w 5 1 v n xs) (hne:v.ownBlock≠some b) (hlen:n+s.size≤140737488355328) :
  Calls Tryz.prog 26 #[.pointer (some ⟨b,0,none⟩),.string s] w fun e w'=>e=.returned (.tuple #[.int .i64 s.size,.nilIface])∧AnySb.Wrote w w' b used 5 v (n+s.size) (xs++Lib.strCells s):=by
 obtain ⟨i0,hi,hz0,hz1,hz2⟩:=info_parts juc
 go_enter Tryz.func26,Tryz.ntmps26
 go_wp2_with (go_at_call 51;refine (jug b used v _ hbk).mono ?_)
 rintro e w1 ⟨rfl,hw1⟩
 have hb1:w1.heap[b]?=some (.cells #[.pointer (some ⟨b,0,none⟩),v] 59 (0,0)):=by
  subst hw1
  cases used
  ·simp only [cond_false] at hbk ⊢
   simp [World.setCell,Array.getElem?_modify,hbk]
  ·exact hbk
 have hk1:∀ k,k≠b→w1.heap[k]?=w.heap[k]?:=fun k hk=>by
  subst hw1
  cases used
  ·simp only [cond_false,World.setCell,Array.getElem?_modify]
   rw [if_neg (fun e=>hk e.symm)]
  ·rfl
 have hown1:Owns w1 5 1 v n xs:=hown.keep fun g hg=>hk1 g (fun e=>hne (by rw [hg,e]))
 have hfst:AnySb.First w w1 b used:=⟨hw1⟩
 clear hw1
 have c0:w1.cell? ⟨b,0,none⟩=some (.pointer (some ⟨b,0,none⟩)):=by rw [Lib.cell_of_heap hb1];rfl
 have c1:w1.cell? ⟨b,1,none⟩=some v:=by rw [Lib.cell_of_heap hb1];rfl
 go_wp2_with (at_builtin;refine jty _ rfl _ _ 57 9 rfl 5 i0 (by kernel_rfl) (by kernel_rfl) hi hz0 hz1 hz2 _ _ _ rfl hown1 s rfl ?c3 ?c4 ?_)
 case c3=>unfold maxLen;omega
 case c4=>omega
 intro v' w2 hown' hgrow hat
 have hlt:b<w1.heap.size:=qkq hb1
 have hb2:w2.heap[b]?=some (.cells #[.pointer (some ⟨b,0,none⟩),v] 59 (0,0)):=by
  rw [hgrow.block b hlt (fun e=>hne e.symm)]
  exact hb1
 have d0:w2.cell? ⟨b,0,none⟩=some (.pointer (some ⟨b,0,none⟩)):=by rw [Lib.cell_of_heap hb2];rfl
 have d1:w2.cell? ⟨b,1,none⟩=some v:=by rw [Lib.cell_of_heap hb2];rfl
 have f1:w2.frozen? ⟨b,1,none⟩=false:=Lib.frozen_of_heap hb2 1
 obtain ⟨ao,n',cap,rfl⟩:∃ ao n' cap,v'=.slice ao n' cap:=by
  rcases hown'.2 with ⟨hv,_⟩|⟨g,lo,cap,cur,hv,_⟩
  ·exact ⟨_,_,_,hv⟩
  ·exact ⟨_,_,_,hv⟩
 go_wp2
 go_ret2
 exact ⟨rfl,⟨_,_,_,hfst,hgrow,hown',hat,rfl⟩⟩
end Go.Proofs.YtcfllgdfhfcicaaGreatDoor
end
section
namespace Go.Proofs.YtcfllgdfhfcicaaGreatDoor
open List renaming getD_eq_getElem?_getD → zd
open Go Go.Sx Go.RowKit
set_option maxRecDepth 100000
set_option maxHeartbeats 4000000
theorem jui (ep n:Nat) (F:Nat→List AV) (used:Bool) (s:List UInt8) (hs:0<s.length) (hl:n+s.length≤140737488355328) :
  Trip Tryz.prog 26 [.ptr 0 0,.str s] [.box 59 [bif used then .ptr 0 0 else .nilp,.own 1 0 ep n],.row [] 5 1 ep n F] (.tup [.int .i64 s.length,.nili])
   [(0,.box 59 [.ptr 0 0,.own 1 0 ep (n+s.length)]),(1,.row [] 5 1 ep (n+s.length) (appF n F s.length (bytF s)))] 2:=
 jua Tryz.func26 rfl (by kernel_rfl) ep n F used s hs fun w b v xs h1 h2 h3=>by
  have h:=juh b used v n xs ⟨s.toArray⟩ w h1 h2 h3 (by simpa [ByteArray.size] using hl)
  have e:(⟨s.toArray⟩:ByteArray).size=s.length:=by simp [ByteArray.size]
  rw [e] at h
  exact h
theorem jgb (ep:Nat) (p:AV) (l:List UInt8) :
  Trip Tryz.prog 28 [.ptr 0 0] [.box 59 [p,.own 1 0 ep l.length],.row [] 5 1 ep l.length (bytF l)] (.str l) [] 2:=
 jub Tryz.func28 rfl (by kernel_rfl) ep p l
  (fun w b g lo cap p cur h0 h1 h2 h3 h4 h5 h6=>AnySb.string_some Tryz.lays169 Tryz.Builder_Extra_169 b g lo cap p cur l h0 w h1 h2 h3 h4 h5 h6)
  (fun w b p h=>AnySb.string_nil Tryz.lays169 Tryz.Builder_Extra_169 b p w h)
  (fun w b g lo cap p cur h1 h2=>by
   by_cases hc:cap=0
   ·subst hc;exact AnySb.string_noroom Tryz.lays169 Tryz.Builder_Extra_169 b g lo p cur w h1 h2
   ·exact AnySb.string_room Tryz.lays169 Tryz.Builder_Extra_169 b g lo cap p w hc h1)
theorem juj (a b:List UInt8) (k:Nat) (hk:k<a.length+b.length):appF a.length (bytF a) b.length (bytF b) k=bytF (a++b) k:=by
 unfold appF bytF
 by_cases h:k<a.length
 ·rw [if_pos h,zd (l:=a++b),List.getElem?_append_left h,← zd]
 ·rw [if_neg h,if_pos hk,zd (l:=a++b),List.getElem?_append_right (by omega),← zd]
theorem qsa (used:Bool) (t s:List UInt8) (hs:0<s.length) (hl:t.length+s.length≤140737488355328) :
  Trip Tryz.prog 26 [.ptr 0 0,.str s] [.box 59 [bif used then .ptr 0 0 else .nilp,.own 1 0 0 t.length],.row [] 5 1 0 t.length (bytF t)] (.tup [.int .i64 s.length,.nili])
   [(0,.box 59 [.ptr 0 0,.own 1 0 0 (t++s).length]),(1,.row [] 5 1 0 (t++s).length (bytF (t++s)))] 2:=by
 have h:=jui 0 t.length (bytF t) used s hs hl
 intro c rd mp w vs h1 h2 h3 h4 h5
 refine (h c rd mp w vs h1 h2 h3 h4 h5).mono (fun v w' ⟨rd',mp',a1,a2,a3,a4⟩=>⟨rd',mp',a1,a2,a3,a4.weak ?_⟩) (fun _ _ h=>h)
 intro i x hx
 match i,hx with
 | 0,hx=>
  cases hx
  exact ⟨_,rfl,rfl,Le.refl _,Le.of_eq (congrArg (AV.own 1 0 0) (by simp)),trivial⟩
 | 1,hx=>
  cases hx
  exact ⟨_,rfl,⟨rfl,rfl,rfl⟩,rfl,by simp,fun k hk=>LeL.of_eq (juj t s k hk)⟩
 | i+2,hx=>cases hx
end Go.Proofs.YtcfllgdfhfcicaaGreatDoor
end
section
namespace Go.Proofs.YtcfllgdfhfcicaaGreatDoor
open Go Go.Sx Go.RowKit Go.St
set_option maxRecDepth 100000
set_option maxHeartbeats 4000000

set_option maxHeartbeats 2000000
theorem juk (m:Md) (hm:MOk m):Con Tryz.prog 87 [m.av] (qz m).av:=by
 have hsz:=hm.sz
 refine zK {} 300 Tryz.func87 (fun c0 rdb=>?_)
 (repeat' ((conv=>whnf);first|refine zO ?_|refine Ob.auto ?_|(refine Ob.intro (by ((refine ⟨by omega,by omega,by omega,?_⟩;dsimp only;refine Int.le_trans (Int.mul_le_mul_of_nonneg_right (?_:_≤(4000001:Int)) (Int.natCast_nonneg _)) (by decide +kernel);omega))) ?_)|(refine zR 300 ?_)|fail))
 ((conv=>whnf);refine qp (fun _=>rfl) 300 1 (fun i:Nat=>[(22,iv i)]) (fun i=>[(9,.row [] 3 1 0 m.vars.length (fun j=>[if j<i then iv (m.vars.getD j vr0).value else iv 0]))]) (fun i=>i≤m.vars.length) (fun i=>m.vars.length - i) (0) (by omega) qa ⟨qba (fun k _=>by kernel_rfl),trivial⟩ (fun _=>rfl) (by kernel_rfl) ?_;(conv=>whnf))
 intro i hi
 (repeat' ((conv=>whnf);first|refine Ob.auto ?_|(apply zB <;> intro hb <;> (try simp [-List.getD_eq_getElem?_getD] at hb) <;> try (exfalso;omega))))
 ·((conv=>whnf);refine ⟨i+1,by omega,⟨qa,qa⟩,⟨qa,qa⟩,?_⟩;(first|omega|(dsimp only;omega)|skip))
 ·obtain rfl:i=m.vars.length:=by omega
  refine Le.agg ⟨Le.slc (by simp [qz]) (fun j hj=>?_),Le.slc (by simp [qz]) (fun j hj=>?_),Le.slcL (by simp [qz]) (fun j hj=>?_),Le.refl _,trivial⟩
  ·show _=[iv ((qz m).at_.getD j 0)]
   rw [qz,qka _ _ _ _ (by simpa using hj)];kernel_rfl
  ·show [if j<m.vars.length then iv (m.vars.getD j vr0).value else iv 0]=[iv ((qz m).vars.getD j 0)]
   rw [if_pos (by simpa using hj),qz,qui _ _ _ _ vr0 (by simpa using hj)]
  ·show LeL [.nils] [ints ((qz m).chans.getD j [])]
   rw [qz,qka _ _ _ _ (by simpa using hj)]
   exact ⟨Le.nils _ _,trivial⟩
set_option maxHeartbeats 4000000
def rightB (m:Md) (l:List Mv):Bool:=decide (nF m l=l.length) && badB m (stN m l (nF m l))
theorem jul {m:Md} (hM:ModOk m) {l:List Mv} {i:Nat} (hf:ql m (stN m l i)=true) (hok:okN m l i=true):Con Tryz.prog 88 [m.av,(stN m l i).av,(l.getD i {}).av] (.tup [(stN m l (i+1)).av,.bool true]):=by
 have hdo:=jex m hM (stN m l i) (qck hM hf) (l.getD i {})
 have hde:doB m (stN m l i) (l.getD i {})=true:=by unfold doB;rw [hf,Bool.true_and];exact hok
 unfold qro at hdo
 rw [hde,if_pos rfl] at hdo
 exact hdo
theorem jum {m:Md} (hM:ModOk m) {l:List Mv} {i:Nat} (hf:ql m (stN m l i)=true) (hok:okN m l i=false):Con Tryz.prog 88 [m.av,(stN m l i).av,(l.getD i {}).av] (.tup [st0z.av,.bool false]):=by
 have hdo:=jex m hM (stN m l i) (qck hM hf) (l.getD i {})
 have hde:doB m (stN m l i) (l.getD i {})=false:=by unfold doB;rw [hf,Bool.true_and];exact hok
 unfold qro at hdo
 rw [hde,if_neg (by decide)] at hdo
 exact hdo

def boxG (m:Md) (n:Nat):SO:=.box 111 (m.cells++[.own 1 0 0 n,.own 2 0 0 m.chans.length])
def rowE (E:List Ev):SO:=.row [] 40 6 0 E.length (encL Ev.cells {} E)
def rowW (m:Md) (E:List Ev):SO:=.row [3] 28 1 0 m.chans.length (fun k=>[.own 3 k (jf E k) (ja E k).length])
def famW (m:Md) (E:List Ev):SO:=.fam 3 1 m.chans.length (fun k=>jf E k) (fun k=>(ja E k).length) (fun k=>encL (fun n:Nat=>[iv n]) 0 (ja E k))
theorem jun (E:List Ev) (c:Int):(ja E c).length≤E.length:=by
 unfold ja qaa
 rw [List.length_drop]
 have:=List.length_filter_le (fun j=>qdh c (E.getD j {})) (List.range E.length)
 rw [List.length_range] at this
 omega
theorem juo {L:List Nat} {x:Nat} {g:Nat→List AV} (hg:g 0=[iv x]) {j:Nat} (hj:j<L.length+1):appF L.length (encL (fun n:Nat=>[iv n]) 0 L) 1 g j=encL (fun n:Nat=>[iv n]) 0 (L++[x]) j:=by
 unfold appF encL
 rw [qil]
 by_cases hl:j<L.length
 ·rw [if_pos hl,if_pos hl]
 ·obtain rfl:j=L.length:=by omega
  rw [if_neg hl,if_neg hl,if_pos rfl,if_pos (by omega),Nat.sub_self,hg]
theorem jgc (m:Md) (E:List Ev) (hE:E.length≤1000000) (e:Ev) (c:Nat) (hc:c<m.chans.length) (hec:e.ch=c) (hp:qdh c e=true) (hg:jf E c≤(qaa E c).length):Trip Tryz.prog 90 [.ptr 0 0,e.av] [boxG m E.length,rowE E,rowW m E,famW m E] (.tup []) [(0,boxG m (E.length+1)),(1,rowE (E++[e])),(2,rowW m (E++[e])),(3,famW m (E++[e]))] 4:=by
 obtain ⟨k,mv,pr,ch,ms,fr⟩:=e
 simp only at hec
 subst hec
 unfold boxG rowE rowW famW
 refine zL {lit:=true} 300 Tryz.func90 (fun c0 rdb mpb=>?_)
 (repeat' ((conv=>whnf);first|refine zO ?_|refine Ob.auto ?_|refine zD 300 ?_|refine Ob.intro ?_ ?_|fail))
 ·have hwl:=jun E c
  refine ⟨hc,⟨rfl,rfl⟩,⟨rfl,rfl⟩,show (ja E c).length+1≤9223372036854775807 by omega,?_⟩
  refine Nat.le_trans (Nat.mul_le_mul_right _ (show (ja E c).length+1≤4000001 by omega)) ?_
  dsimp only;decide +kernel
 ·exact ⟨⟨⟨rfl,rfl⟩,hc⟩,hc,by simp [upd],by simp [upd]⟩
 ·obtain ⟨e1,_,e2⟩:=qwh hp hg
  refine ⟨Le.refl _,⟨rfl,LeL.refl _⟩,qia Ev.cells {} rfl rfl,⟨⟨rfl,rfl,rfl⟩,rfl,rfl,fun j hj=>?_⟩,qel (fun j hj=>?_) (fun j hj=>?_) (fun j q hj hq=>?_),trivial⟩
  ·refine LeL.of_eq (show (if j=c then [AV.own 3 c (jf E c) ((ja E c).length+1)] else [AV.own 3 j (jf E j) (ja E j).length])=[AV.own 3 j (jf (E++[⟨k,mv,pr,c,ms,fr⟩]) j) (ja (E++[⟨k,mv,pr,c,ms,fr⟩]) j).length] from ?_)
   by_cases h:j=c
   ·subst h;rw [if_pos rfl,e1,e2,List.length_append];rfl
   ·obtain ⟨o1,_,o2⟩:=qgw (E:=E) (e:=⟨k,mv,pr,c,ms,fr⟩) (c:=(j:Int)) (by simp only;omega)
    rw [if_neg h,o1,o2]
  ·show Go.Sx.upd _ _ _ j=_
   unfold Go.Sx.upd
   by_cases h:j=c
   ·subst h;exact (if_pos rfl).trans e1.symm
   ·obtain ⟨o1,_,o2⟩:=qgw (E:=E) (e:=⟨k,mv,pr,c,ms,fr⟩) (c:=(j:Int)) (by simp only;omega)
    exact (if_neg h).trans o1.symm
  ·show Go.Sx.upd _ _ _ j=_
   unfold Go.Sx.upd
   by_cases h:j=c
   ·subst h;rw [e2,List.length_append];exact if_pos rfl
   ·obtain ⟨o1,_,o2⟩:=qgw (E:=E) (e:=⟨k,mv,pr,c,ms,fr⟩) (c:=(j:Int)) (by simp only;omega)
    rw [o2];exact if_neg h
  ·have hq:q<Go.Sx.upd (fun k=>(ja E k).length) c ((ja E c).length+1) j:=hq
   show Go.Sx.upd (α:=Nat→List AV) _ _ _ j q=_
   unfold Go.Sx.upd at hq ⊢
   by_cases h:j=c
   ·subst h
    rw [if_pos rfl] at hq
    refine (congrFun (if_pos rfl) q).trans ?_
    rw [e2]
    exact juo rfl hq
   ·obtain ⟨o1,_,o2⟩:=qgw (E:=E) (e:=⟨k,mv,pr,c,ms,fr⟩) (c:=(j:Int)) (by simp only;omega)
    refine (congrFun (if_neg h) q).trans ?_
    rw [o2]
end Go.Proofs.YtcfllgdfhfcicaaGreatDoor
end
