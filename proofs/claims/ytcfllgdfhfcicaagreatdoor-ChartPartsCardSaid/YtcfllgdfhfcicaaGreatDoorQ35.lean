/- Some texts of the library, one behind the other. -/
import Derived.Test.YtcfllgdfhfcicaaGreatDoorQ2
import Derived.Test.YtcfllgdfhfcicaaGreatDoorChecked
import Derived.Test.YtcfllgdfhfcicaaGreatDoorQ3
import Derived.Test.YtcfllgdfhfcicaaGreatDoorQ34
import Derived.Test.YtcfllgdfhfcicaaGreatDoorQ28
import Derived.Test.YtcfllgdfhfcicaaGreatDoorQ27
import Derived.Test.YtcfllgdfhfcicaaGreatDoorQ32
import Derived.Test.YtcfllgdfhfcicaaGreatDoorQ26
set_option linter.unusedSimpArgs false
set_option linter.unusedVariables false
section
namespace Go.Proofs.YtcfllgdfhfcicaaGreatDoor
open Go Go.RowKit Go.Lib Go.Sx
theorem jhc:(Tryz.prog.info? 59).map (·.size)=some 2:=by kernel_rfl
theorem qxy:Tryz.prog.underlying 56=some (.pointer 59):=by kernel_rfl
theorem jhd:Tryz.prog.underlying 150=some .unsafePointer:=by kernel_rfl
theorem jvx:(Tryz.prog.info? 5).map (fun i=>(i.zero,i.size,i.bytes))=some (some (.int .u8 0),1,1):=by kernel_rfl
theorem jvy:liesAt Tryz.prog Tryz.prog.depth 59 (2 / Tryz.prog.cellsOf 59) 0 59 1=true:=by kernel_rfl
set_option maxHeartbeats 1000000 in
set_option maxRecDepth 100000 in
theorem jvz (b:Nat) (w:World) (h0:w.cell? ⟨b,0,none⟩=some (.pointer (some ⟨b,0,none⟩))) :
  Calls Tryz.prog 51 #[.pointer (some ⟨b,0,none⟩)] w fun e w'=>e=.returned (.tuple #[])∧w'=w:=by
 obtain ⟨j,hj,_⟩:=Option.map_eq_some_iff.1 jhc
 go_enter Tryz.func51,Tryz.ntmps51
 go_wp2
 rw [Lib.run_neq_ptr_same w _ qxy hj]
 go_wp2
 go_end0
 exact ⟨rfl,rfl⟩
set_option maxHeartbeats 1000000 in
set_option maxRecDepth 100000 in
theorem jwa (b:Nat) (w:World) (h0:w.cell? ⟨b,0,none⟩=some (.pointer none)) (hsh:w.shape? b=some (59,2)) (hfz:w.frozen? ⟨b,0,none⟩=false) :
  Calls Tryz.prog 51 #[.pointer (some ⟨b,0,none⟩)] w fun e w'=>e=.returned (.tuple #[])∧w'=w.setCell ⟨b,0,none⟩ (.pointer (some ⟨b,0,none⟩)):=by
 obtain ⟨j,hj,hjs⟩:=Option.map_eq_some_iff.1 jhc
 go_enter Tryz.func51,Tryz.ntmps51
 go_wp2
 rw [Lib.run_to_unsafe w ⟨b,0,none⟩ qxy jhd hj (by rw [hjs];decide) hsh (zbn 1)]
 simp only [Result.andThen]
 rw [Oper.upon_value]
 go_wp2
 rw [run_callFunc_extern Tryz.func92 (by kernel_rfl) (by kernel_rfl) (by kernel_rfl) (e:=Extern.AbiNoEscape.same) (by kernel_rfl)]
 rw [Lib.run_noEscape]
 simp only [Result.andThen]
 rw [Oper.upon_value]
 go_wp2
 rw [Lib.run_from_unsafe w ⟨b,0,none⟩ jhd qxy hj hsh jvy]
 simp only [Result.andThen]
 rw [Oper.upon_value]
 go_wp2
 go_end0
 exact ⟨rfl,rfl⟩
theorem jwb (b:Nat) (used:Bool) (v:Value) (w:World) (hbk:w.heap[b]?=some (.cells #[.pointer (bif used then some ⟨b,0,none⟩ else none),v] 59 (0,0))) :
  Calls Tryz.prog 51 #[.pointer (some ⟨b,0,none⟩)] w fun e w'=>e=.returned (.tuple #[])∧w'=bif used then w else w.setCell ⟨b,0,none⟩ (.pointer (some ⟨b,0,none⟩)):=by
 have hc:w.cell? ⟨b,0,none⟩=some (.pointer (bif used then some ⟨b,0,none⟩ else none)):=by rw [Lib.cell_of_heap hbk];rfl
 cases used
 ·exact jwa b w hc (by simp [World.shape?,hbk]) (Lib.frozen_of_heap hbk 0)
 ·exact jvz b w hc
set_option maxHeartbeats 2000000 in
set_option maxRecDepth 100000 in
theorem jwc (b:Nat) (used:Bool) (v:Value) (n:Nat) (xs:List Value) (s:ByteArray) (w:World)
  (hbk:w.heap[b]?=some (.cells #[.pointer (bif used then some ⟨b,0,none⟩ else none),v] 59 (0,0))) (hown:Owns w 5 1 v n xs) (hne:v.ownBlock≠some b) (hlen:n+s.size≤140737488355328) :
  Calls Tryz.prog 26 #[.pointer (some ⟨b,0,none⟩),.string s] w fun e w'=>e=.returned (.tuple #[.int .i64 s.size,.nilIface])∧AnySb.Wrote w w' b used 5 v (n+s.size) (xs++Lib.strCells s):=by
 obtain ⟨i0,hi,hz0,hz1,hz2⟩:=info_parts jvx
 go_enter Tryz.func26,Tryz.ntmps26
 go_wp2_with (go_at_call 51;refine (jwb b used v _ hbk).mono ?_)
 rintro e w1 ⟨rfl,hw1⟩
 have hb1:w1.heap[b]?=some (.cells #[.pointer (some ⟨b,0,none⟩),v] 59 (0,0)):=by
  subst hw1
  cases used
  ·simp only [cond_false] at hbk ⊢
   simp [World.setCell,zbl,hbk]
  ·exact hbk
 have hk1:∀ k,k≠b→w1.heap[k]?=w.heap[k]?:=fun k hk=>by
  subst hw1
  cases used
  ·simp only [cond_false,World.setCell,zbl]
   rw [za (fun e=>hk e.symm)]
  ·rfl
 have hown1:Owns w1 5 1 v n xs:=hown.keep fun g hg=>hk1 g (fun e=>hne (by rw [hg,e]))
 have hfst:AnySb.First w w1 b used:=⟨hw1⟩
 clear hw1
 have c0:w1.cell? ⟨b,0,none⟩=some (.pointer (some ⟨b,0,none⟩)):=by rw [Lib.cell_of_heap hb1];rfl
 have c1:w1.cell? ⟨b,1,none⟩=some v:=by rw [Lib.cell_of_heap hb1];rfl
 go_wp2_with (at_builtin;refine jvt _ rfl _ _ 57 9 rfl 5 i0 (by kernel_rfl) (by kernel_rfl) hi hz0 hz1 hz2 _ _ _ rfl hown1 s rfl ?c3 ?c4 ?_)
 case c3=>unfold maxLen;omega
 case c4=>omega
 intro v' w2 hown' hgrow hat
 have hlt:b<w1.heap.size:=qlb hb1
 have hb2:w2.heap[b]?=some (.cells #[.pointer (some ⟨b,0,none⟩),v] 59 (0,0)):=by
  rw [hgrow.block b hlt (fun e=>hne e.symm)]
  exact hb1
 have d0:w2.cell? ⟨b,0,none⟩=some (.pointer (some ⟨b,0,none⟩)):=by rw [Lib.cell_of_heap hb2];rfl
 have d1:w2.cell? ⟨b,1,none⟩=some v:=by rw [Lib.cell_of_heap hb2];rfl
 have f1:w2.frozen? ⟨b,1,none⟩=false:=Lib.frozen_of_heap hb2 1
 obtain ⟨ao,n',cap,rfl⟩:∃ ao n' cap,v'=.slice ao n' cap:=by
  rcases hown'.2 with ⟨hv,_⟩|⟨g,lo,cap,cur,hv,_⟩
  ·exact ⟨_,_,_,hv⟩
  ·exact ⟨_,_,_,hv⟩
 go_wp2
 go_ret2
 exact ⟨rfl,⟨_,_,_,hfst,hgrow,hown',hat,rfl⟩⟩
end Go.Proofs.YtcfllgdfhfcicaaGreatDoor
end
section
namespace Go.Proofs.YtcfllgdfhfcicaaGreatDoor
open List renaming getD_eq_getElem?_getD → zd
open Go Go.Sx Go.RowKit
set_option maxRecDepth 100000
set_option maxHeartbeats 4000000
theorem jwd (ep n:Nat) (F:Nat→List AV) (used:Bool) (s:List UInt8) (hs:0<s.length) (hl:n+s.length≤140737488355328) :
  Trip Tryz.prog 26 [.ptr 0 0,.str s] [.box 59 [bif used then .ptr 0 0 else .nilp,.own 1 0 ep n],.row [] 5 1 ep n F] (.tup [.int .i64 s.length,.nili])
   [(0,.box 59 [.ptr 0 0,.own 1 0 ep (n+s.length)]),(1,.row [] 5 1 ep (n+s.length) (appF n F s.length (bytF s)))] 2:=
 jvv Tryz.func26 rfl (by kernel_rfl) ep n F used s hs fun w b v xs h1 h2 h3=>by
  have h:=jwc b used v n xs ⟨s.toArray⟩ w h1 h2 h3 (by simpa [ByteArray.size] using hl)
  have e:(⟨s.toArray⟩:ByteArray).size=s.length:=by simp [ByteArray.size]
  rw [e] at h
  exact h
theorem jhe (ep:Nat) (p:AV) (l:List UInt8) :
  Trip Tryz.prog 28 [.ptr 0 0] [.box 59 [p,.own 1 0 ep l.length],.row [] 5 1 ep l.length (bytF l)] (.str l) [] 2:=
 jvw Tryz.func28 rfl (by kernel_rfl) ep p l
  (fun w b g lo cap p cur h0 h1 h2 h3 h4 h5 h6=>AnySb.string_some Tryz.lays169 Tryz.Builder_Extra_169 b g lo cap p cur l h0 w h1 h2 h3 h4 h5 h6)
  (fun w b p h=>AnySb.string_nil Tryz.lays169 Tryz.Builder_Extra_169 b p w h)
  (fun w b g lo cap p cur h1 h2=>by
   by_cases hc:cap=0
   ·subst hc;exact AnySb.string_noroom Tryz.lays169 Tryz.Builder_Extra_169 b g lo p cur w h1 h2
   ·exact AnySb.string_room Tryz.lays169 Tryz.Builder_Extra_169 b g lo cap p w hc h1)
theorem jwe (a b:List UInt8) (k:Nat) (hk:k<a.length+b.length):appF a.length (bytF a) b.length (bytF b) k=bytF (a++b) k:=by
 unfold appF bytF
 by_cases h:k<a.length
 ·rw [zb h,zd (l:=a++b),zz h,← zd]
 ·rw [za h,zb hk,zd (l:=a++b),zt (by omega),← zd]
theorem qss (used:Bool) (t s:List UInt8) (hs:0<s.length) (hl:t.length+s.length≤140737488355328) :
  Trip Tryz.prog 26 [.ptr 0 0,.str s] [.box 59 [bif used then .ptr 0 0 else .nilp,.own 1 0 0 t.length],.row [] 5 1 0 t.length (bytF t)] (.tup [.int .i64 s.length,.nili])
   [(0,.box 59 [.ptr 0 0,.own 1 0 0 (t++s).length]),(1,.row [] 5 1 0 (t++s).length (bytF (t++s)))] 2:=by
 have h:=jwd 0 t.length (bytF t) used s hs hl
 intro c rd mp w vs h1 h2 h3 h4 h5
 refine (h c rd mp w vs h1 h2 h3 h4 h5).mono (fun v w' ⟨rd',mp',a1,a2,a3,a4⟩=>⟨rd',mp',a1,a2,a3,a4.weak ?_⟩) (fun _ _ h=>h)
 intro i x hx
 match i,hx with
 | 0,hx=>
  cases hx
  exact ⟨_,rfl,rfl,Le.refl _,Le.of_eq (congrArg (AV.own 1 0 0) (by simp)),trivial⟩
 | 1,hx=>
  cases hx
  exact ⟨_,rfl,⟨rfl,rfl,rfl⟩,rfl,by simp,fun k hk=>LeL.of_eq (jwe t s k hk)⟩
 | i+2,hx=>cases hx
end Go.Proofs.YtcfllgdfhfcicaaGreatDoor
end
section
namespace Go.Proofs.YtcfllgdfhfcicaaGreatDoor
open Go Go.Sx Go.RowKit Go.St
set_option maxRecDepth 100000
set_option maxHeartbeats 4000000

set_option maxHeartbeats 2000000
theorem jwf (m:Md) (hm:MOk m):Con Tryz.prog 87 [m.av] (qt m).av:=by
 have hsz:=hm.sz
 refine zK {} 300 Tryz.func87 (fun c0 rdb=>?_)
 (repeat' ((conv=>whnf);first|refine zO ?_|refine Ob.auto ?_|(refine Ob.intro (by ((refine ⟨by omega,by omega,by omega,?_⟩;dsimp only;refine zbs (zaq (?_:_≤(4000001:Int)) (xr _)) (by decide +kernel);omega))) ?_)|(refine zR 300 ?_)|fail))
 ((conv=>whnf);refine qo (fun _=>rfl) 300 1 (fun i:Nat=>[(22,iv i)]) (fun i=>[(9,.row [] 3 1 0 m.vars.length (fun j=>[if j<i then iv (m.vars.getD j vr0).value else iv 0]))]) (fun i=>i≤m.vars.length) (fun i=>m.vars.length - i) (0) (by omega) qa ⟨qaz (fun k _=>by kernel_rfl),trivial⟩ (fun _=>rfl) (by kernel_rfl) ?_;(conv=>whnf))
 intro i hi
 (repeat' ((conv=>whnf);first|refine Ob.auto ?_|(apply zB <;> intro hb <;> (try simp [-List.getD_eq_getElem?_getD] at hb) <;> try (exfalso;omega))))
 ·((conv=>whnf);refine ⟨i+1,by omega,⟨qa,qa⟩,⟨qa,qa⟩,?_⟩;(first|omega|(dsimp only;omega)|skip))
 ·obtain rfl:i=m.vars.length:=by omega
  refine Le.agg ⟨Le.slc (by simp [qt]) (fun j hj=>?_),Le.slc (by simp [qt]) (fun j hj=>?_),Le.slcL (by simp [qt]) (fun j hj=>?_),Le.refl _,trivial⟩
  ·show _=[iv ((qt m).at_.getD j 0)]
   rw [qt,qja _ _ _ _ (by simpa using hj)];kernel_rfl
  ·show [if j<m.vars.length then iv (m.vars.getD j vr0).value else iv 0]=[iv ((qt m).vars.getD j 0)]
   rw [zb (by simpa using hj),qt,qrj _ _ _ _ vr0 (by simpa using hj)]
  ·show LeL [.nils] [ints ((qt m).chans.getD j [])]
   rw [qt,qja _ _ _ _ (by simpa using hj)]
   exact ⟨Le.nils _ _,trivial⟩
set_option maxHeartbeats 4000000
def rightB (m:Md) (l:List Mv):Bool:=decide (nF m l=l.length) && badB m (stN m l (nF m l))
theorem jwg {m:Md} (hM:ModOk m) {l:List Mv} {i:Nat} (hf:qm m (stN m l i)=true) (hok:okN m l i=true):Con Tryz.prog 88 [m.av,(stN m l i).av,(l.getD i {}).av] (.tup [(stN m l (i+1)).av,.bool true]):=by
 have hdo:=jgh m hM (stN m l i) (qcs hM hf) (l.getD i {})
 have hde:doB m (stN m l i) (l.getD i {})=true:=by unfold doB;rw [hf,zbq];exact hok
 unfold qsd at hdo
 rw [hde,zb rfl] at hdo
 exact hdo
theorem jwh {m:Md} (hM:ModOk m) {l:List Mv} {i:Nat} (hf:qm m (stN m l i)=true) (hok:okN m l i=false):Con Tryz.prog 88 [m.av,(stN m l i).av,(l.getD i {}).av] (.tup [st0z.av,.bool false]):=by
 have hdo:=jgh m hM (stN m l i) (qcs hM hf) (l.getD i {})
 have hde:doB m (stN m l i) (l.getD i {})=false:=by unfold doB;rw [hf,zbq];exact hok
 unfold qsd at hdo
 rw [hde,za (by decide)] at hdo
 exact hdo

def boxG (m:Md) (n:Nat):SO:=.box 111 (m.cells++[.own 1 0 0 n,.own 2 0 0 m.chans.length])
def rowE (E:List Ev):SO:=.row [] 40 6 0 E.length (encL Ev.cells {} E)
def rowW (m:Md) (E:List Ev):SO:=.row [3] 28 1 0 m.chans.length (fun k=>[.own 3 k (jh E k) (waitOf E k).length])
def famW (m:Md) (E:List Ev):SO:=.fam 3 1 m.chans.length (fun k=>jh E k) (fun k=>(waitOf E k).length) (fun k=>encL (fun n:Nat=>[iv n]) 0 (waitOf E k))
theorem jwi (E:List Ev) (c:Int):(waitOf E c).length≤E.length:=by
 unfold waitOf jt
 rw [xf]
 have:=zag (fun j=>qck c (E.getD j {})) (List.range E.length)
 rw [zbv] at this
 omega
theorem jwj {L:List Nat} {x:Nat} {g:Nat→List AV} (hg:g 0=[iv x]) {j:Nat} (hj:j<L.length+1):appF L.length (encL (fun n:Nat=>[iv n]) 0 L) 1 g j=encL (fun n:Nat=>[iv n]) 0 (L++[x]) j:=by
 unfold appF encL
 rw [qiw]
 by_cases hl:j<L.length
 ·rw [zb hl,zb hl]
 ·obtain rfl:j=L.length:=by omega
  rw [za hl,za hl,zb rfl,zb (by omega),xv,hg]
theorem jhf (m:Md) (E:List Ev) (hE:E.length≤1000000) (e:Ev) (c:Nat) (hc:c<m.chans.length) (hec:e.ch=c) (hp:qck c e=true) (hg:jh E c≤(jt E c).length):Trip Tryz.prog 90 [.ptr 0 0,e.av] [boxG m E.length,rowE E,rowW m E,famW m E] (.tup []) [(0,boxG m (E.length+1)),(1,rowE (E++[e])),(2,rowW m (E++[e])),(3,famW m (E++[e]))] 4:=by
 obtain ⟨k,mv,pr,ch,ms,fr⟩:=e
 simp only at hec
 subst hec
 unfold boxG rowE rowW famW
 refine zL {lit:=true} 300 Tryz.func90 (fun c0 rdb mpb=>?_)
 (repeat' ((conv=>whnf);first|refine zO ?_|refine Ob.auto ?_|refine zD 300 ?_|refine Ob.intro ?_ ?_|fail))
 ·have hwl:=jwi E c
  refine ⟨hc,⟨rfl,rfl⟩,⟨rfl,rfl⟩,show (waitOf E c).length+1≤9223372036854775807 by omega,?_⟩
  refine xc (xb _ (show (waitOf E c).length+1≤4000001 by omega)) ?_
  dsimp only;decide +kernel
 ·exact ⟨⟨⟨rfl,rfl⟩,hc⟩,hc,by simp [upd],by simp [upd]⟩
 ·obtain ⟨e1,_,e2⟩:=qov hp hg
  refine ⟨Le.refl _,⟨rfl,LeL.refl _⟩,qhg Ev.cells {} rfl rfl,⟨⟨rfl,rfl,rfl⟩,rfl,rfl,fun j hj=>?_⟩,qeu (fun j hj=>?_) (fun j hj=>?_) (fun j q hj hq=>?_),trivial⟩
  ·refine LeL.of_eq (show (if j=c then [AV.own 3 c (jh E c) ((waitOf E c).length+1)] else [AV.own 3 j (jh E j) (waitOf E j).length])=[AV.own 3 j (jh (E++[⟨k,mv,pr,c,ms,fr⟩]) j) (waitOf (E++[⟨k,mv,pr,c,ms,fr⟩]) j).length] from ?_)
   by_cases h:j=c
   ·subst h;rw [zb rfl,e1,e2,zg];rfl
   ·obtain ⟨o1,_,o2⟩:=qel (E:=E) (e:=⟨k,mv,pr,c,ms,fr⟩) (c:=(j:Int)) (by simp only;omega)
    rw [za h,o1,o2]
  ·show Go.Sx.upd _ _ _ j=_
   unfold Go.Sx.upd
   by_cases h:j=c
   ·subst h;exact (zb rfl).trans e1.symm
   ·obtain ⟨o1,_,o2⟩:=qel (E:=E) (e:=⟨k,mv,pr,c,ms,fr⟩) (c:=(j:Int)) (by simp only;omega)
    exact (za h).trans o1.symm
  ·show Go.Sx.upd _ _ _ j=_
   unfold Go.Sx.upd
   by_cases h:j=c
   ·subst h;rw [e2,zg];exact zb rfl
   ·obtain ⟨o1,_,o2⟩:=qel (E:=E) (e:=⟨k,mv,pr,c,ms,fr⟩) (c:=(j:Int)) (by simp only;omega)
    rw [o2];exact za h
  ·have hq:q<Go.Sx.upd (fun k=>(waitOf E k).length) c ((waitOf E c).length+1) j:=hq
   show Go.Sx.upd (α:=Nat→List AV) _ _ _ j q=_
   unfold Go.Sx.upd at hq ⊢
   by_cases h:j=c
   ·subst h
    rw [zb rfl] at hq
    refine (congrFun (zb rfl) q).trans ?_
    rw [e2]
    exact jwj rfl hq
   ·obtain ⟨o1,_,o2⟩:=qel (E:=E) (e:=⟨k,mv,pr,c,ms,fr⟩) (c:=(j:Int)) (by simp only;omega)
    refine (congrFun (za h) q).trans ?_
    rw [o2]
theorem jhg (m:Md) (E:List Ev) (hE:E.length≤1000000) (k mv pr ms fr:Int) (c:Nat) (hc:c<m.chans.length) (hp:isTake c ⟨k,mv,pr,c,ms,(waitOf E c).getD 0 0⟩=true) (hg:jh E c≤(jt E c).length) (hw:0<(waitOf E c).length) :
  Trip Tryz.prog 89 [.ptr 0 0,.agg [iv k,iv mv,iv pr,iv c,iv ms,iv fr]] [boxG m E.length,rowE E,rowW m E,famW m E] (.tup []) [(0,boxG m (E.length+1)),(1,rowE (E++[⟨k,mv,pr,c,ms,(waitOf E c).getD 0 0⟩])),(2,rowW m (E++[⟨k,mv,pr,c,ms,(waitOf E c).getD 0 0⟩])),(3,famW m (E++[⟨k,mv,pr,c,ms,(waitOf E c).getD 0 0⟩]))] 4:=by
 unfold boxG rowE rowW famW
 refine zL {lit:=true,cuts:=[29]} 300 Tryz.func89 (fun c0 rdb mpb=>?_)
 (repeat' ((conv=>whnf);first|refine zO ?_|refine Ob.auto ?_|refine zD 300 ?_|refine Ob.intro ?_ ?_|fail))
 ·exact ⟨hc,⟨rfl,rfl⟩,by decide,show (1:Int)≤((waitOf E c).length:Int) by omega⟩
 ·exact ⟨⟨⟨rfl,rfl⟩,hc⟩,hc,by simp [upd],by simp [upd]⟩
 ·obtain ⟨e1,_,e2⟩:=qsh hp hg hw
  refine ⟨Le.refl _,⟨rfl,LeL.refl _⟩,qhg Ev.cells {} rfl rfl,⟨⟨rfl,rfl,rfl⟩,rfl,rfl,fun j hj=>?_⟩,qeu (fun j hj=>?_) (fun j hj=>?_) (fun j q hj hq=>?_),trivial⟩
  ·refine LeL.of_eq (show (if j=c then [AV.own 3 c (jh E c+1) ((waitOf E c).length - 1)] else [AV.own 3 j (jh E j) (waitOf E j).length])=[AV.own 3 j (jh (E++[⟨k,mv,pr,c,ms,(waitOf E c).getD 0 0⟩]) j) (waitOf (E++[⟨k,mv,pr,c,ms,(waitOf E c).getD 0 0⟩]) j).length] from ?_)
   by_cases h:j=c
   ·subst h;rw [zb rfl,e1,e2,xf]
   ·obtain ⟨o1,_,o2⟩:=qel (E:=E) (e:=⟨k,mv,pr,c,ms,(waitOf E c).getD 0 0⟩) (c:=(j:Int)) (by simp only;omega)
    rw [za h,o1,o2]
  ·show Go.Sx.upd _ _ _ j=_
   unfold Go.Sx.upd
   by_cases h:j=c
   ·subst h;exact (zb rfl).trans e1.symm
   ·obtain ⟨o1,_,o2⟩:=qel (E:=E) (e:=⟨k,mv,pr,c,ms,(waitOf E c).getD 0 0⟩) (c:=(j:Int)) (by simp only;omega)
    exact (za h).trans o1.symm
  ·show Go.Sx.upd _ _ _ j=_
   unfold Go.Sx.upd
   by_cases h:j=c
   ·subst h;rw [e2,xf];exact zb rfl
   ·obtain ⟨o1,_,o2⟩:=qel (E:=E) (e:=⟨k,mv,pr,c,ms,(waitOf E c).getD 0 0⟩) (c:=(j:Int)) (by simp only;omega)
    rw [o2];exact za h
  ·show Go.Sx.upd (α:=Nat→List AV) _ _ _ j q=_
   unfold Go.Sx.upd
   by_cases h:j=c
   ·subst h
    refine (congrFun (zb rfl) q).trans ?_
    rw [e2]
    show encL (fun n:Nat=>[iv n]) 0 (waitOf E j) (1+q)=_
    unfold encL
    rw [List.getD_eq_getElem?_getD (l:=List.drop 1 _),xj,← List.getD_eq_getElem?_getD]
   ·obtain ⟨o1,_,o2⟩:=qel (E:=E) (e:=⟨k,mv,pr,c,ms,(waitOf E c).getD 0 0⟩) (c:=(j:Int)) (by simp only;omega)
    refine (congrFun (za h) q).trans ?_
    rw [o2]
end Go.Proofs.YtcfllgdfhfcicaaGreatDoor
end
