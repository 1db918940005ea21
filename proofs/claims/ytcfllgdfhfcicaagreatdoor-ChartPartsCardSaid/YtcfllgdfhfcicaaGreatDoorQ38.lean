/- Some texts of the library, one behind the other. -/
import Derived.Test.YtcfllgdfhfcicaaGreatDoorQ33
import Derived.Test.YtcfllgdfhfcicaaGreatDoorQ37
import Derived.Test.YtcfllgdfhfcicaaGreatDoorQ2
import Derived.Test.YtcfllgdfhfcicaaGreatDoorQ34
import Derived.Test.YtcfllgdfhfcicaaGreatDoorQ3
import Derived.Shelf.Strings.SplitShaped
import Derived.Shelf.Strings.Cut
import Derived.Shelf.Strings.Prefix
set_option linter.unusedSimpArgs false
set_option linter.unusedVariables false
section
namespace Go.Proofs.YtcfllgdfhfcicaaGreatDoor
open Go Go.Sx Go.RowKit Go.St Go.Sp
set_option maxRecDepth 100000
def numT (s:List UInt8):Int × Bool:=
  if 0<(Lib.trimPrefix s [45]).length∧(Lib.trimPrefix s [45]).length≤6∧(Lib.trimPrefix s [45]).all digB=true then
    (if (Lib.trimPrefix s [45]).length<s.length then -valD (Lib.trimPrefix s [45]) else valD (Lib.trimPrefix s [45]),
     Lib.itoa (if (Lib.trimPrefix s [45]).length<s.length then -valD (Lib.trimPrefix s [45]) else valD (Lib.trimPrefix s [45])) == s)
  else (0,false)
def jb (s:List UInt8):Int:=if s=jp 0 then 0 else if s=jp 1 then 1 else if s=jp 2 then 2 else if s=jp 3 then 3 else -1
def qbk (m:Md) (s:List UInt8):Int:=Go.St.idx (fun p:Nat=>whoT m p == s) (List.range m.procs.length)
def qge (m:Md) (s:List UInt8):Int:=Go.St.idx (fun c:Ch=>c.name == s) m.chans
theorem jhq (s:List UInt8):-1≤jb s∧jb s≤3:=by
 unfold jb
 repeat' split
 all_goals decide
def EvIs (m:Md) (w:List (List UInt8)) (es:List Ev):Prop:=
 (w.length=5∨w.length=7)∧w.getD 0 []=Lib.itoa (es.length:Int)∧0≤jb (w.getD 2 [])∧(jb (w.getD 2 [])=0↔w.length=5) ∧
 (if jb (w.getD 2 [])≤1 then 0≤qbk m (w.getD 1 []) else w.getD 1 []=[45])∧(numT (w.getD 4 [])).2=true∧0≤qge m (w.getD 3 []) ∧
 (jb (w.getD 2 [])=0∨(w.getD 5 []=[111,102]∧(numT (w.getD 6 [])).2=true∧0≤(numT (w.getD 6 [])).1∧(numT (w.getD 6 [])).1<es.length ∧
  (es.getD (numT (w.getD 6 [])).1.toNat {}).ch=qge m (w.getD 3 [])∧(es.getD (numT (w.getD 6 [])).1.toNat {}).kind≠1∧(es.getD (numT (w.getD 6 [])).1.toNat {}).kind≠2))
instance (m:Md) (w:List (List UInt8)) (es:List Ev):Decidable (EvIs m w es):=by unfold EvIs;infer_instance
def evT (m:Md) (w:List (List UInt8)):Ev:=
 ⟨jb (w.getD 2 []),0,if jb (w.getD 2 [])≤1 then qbk m (w.getD 1 []) else -1,qge m (w.getD 3 []),(numT (w.getD 4 [])).1,if jb (w.getD 2 [])=0 then -1 else (numT (w.getD 6 [])).1⟩
def evF (m:Md) (w:List (List UInt8)) (es:List Ev):Option Ev:=if EvIs m w es then some (evT m w) else none
def goL (m:Md):List (List UInt8)→List Ev→Option (List Ev)
 | [],_=>none
 | [l],es=>if l=[] then some es else none
 | l::l'::r,es=>match evF m (spL 32 l) es with|some e=>goL m (l'::r) (es++[e])|none=>none
def qkz (m:Md) (s:List UInt8):Option (List Ev):=goL m (spL 10 s) []
theorem jxi (m:Md) (es:List Ev):goL m (spL 10 []) es=some es:=rfl
theorem jxj (m:Md) {s:List UInt8} (es:List Ev) (h:∀ b∈s,b≠10) (h0:s≠[]):goL m (spL 10 s) es=none:=by
 rw [qsu h]
 exact za h0
theorem qyb (m:Md) {a:List UInt8} (r:List UInt8) (es:List Ev) (h:∀ b∈a,b≠10):goL m (spL 10 (a++10::r)) es=match evF m (spL 32 a) es with|some e=>goL m (spL 10 r) (es++[e])|none=>none:=by
 rw [qsv r h]
 have:=spL_ne 10 r
 cases hr:spL 10 r with
 | nil=>exact absurd hr this
 | cons l' r'=>rfl
theorem jxk (c:UInt8) (s:List UInt8):(∀ b∈s,b≠c)∨∃ a r,s=a++c::r∧∀ b∈a,b≠c:=by
 rcases qpk c s with ⟨_,h⟩|⟨a,r,h1,h2,_⟩
 ·exact .inl h
 ·exact .inr ⟨a,r,h1,h2⟩
structure RdOk (m:Md) (es:List Ev):Prop where
 kind:∀ e∈es,0≤e.kind∧e.kind≤3
 chn:∀ e∈es,0≤e.ch∧e.ch<m.chans.length
theorem jxl {m:Md} {w:List (List UInt8)} {es:List Ev} (h:EvIs m w es):(0≤(evT m w).kind∧(evT m w).kind≤3)∧0≤(evT m w).ch∧(evT m w).ch<m.chans.length:=
 ⟨⟨h.2.2.1,(jhq _).2⟩,h.2.2.2.2.2.2.1,(qgw _ _).2⟩
end Go.Proofs.YtcfllgdfhfcicaaGreatDoor
end
section
namespace Go.Proofs
open Go Go.Shelf Go.RowKit Go.Lib
variable {P:Program} {ρ:Ren}
theorem jhr (s:ByteArray) (c:UInt8):Lib.indexB s ⟨#[c]⟩=Lib.indexByte s.data.toList c:=Lib.index_one s.data.toList c
theorem AnyOne.count (L:Lays.n138 P ρ) (s:ByteArray) (c:UInt8) (w:World) :
  Calls P (ρ.f 138) #[.string s,.string ⟨#[c]⟩] w fun e w'=>e=.returned (.int .i64 (Lib.countB s ⟨#[c]⟩))∧w'=w:=by
 refine (Any.strings_Count_one L s c w).mono fun e w' ⟨he,hw⟩=>⟨?_,hw⟩
 rw [he]
 show _=Ending.returned (Value.int .i64 ((Lib.count s.data.toList [c]:Nat):Int))
 rw [Lib.count_one]
 rfl
theorem AnyOne.index (L:Lays.n143 P ρ) (s:ByteArray) (c:UInt8) (w:World) :
  Calls P (ρ.f 143) #[.string s,.string ⟨#[c]⟩] w fun e w'=>e=.returned (.int .i64 (Lib.indexB s ⟨#[c]⟩))∧w'=w:=by
 refine (Any.strings_Index_one L s c w).mono fun e w' ⟨he,hw⟩=>⟨?_,hw⟩
 rw [he,jhr]
set_option maxHeartbeats 1000000 in
theorem AnyOne.split (L:Lays.n146 P ρ) (hi9:(P.info? (ρ.t 9)).map (fun i=>(i.zero,i.size,i.bytes))=some (some (.string ByteArray.empty),1,16)) (s:ByteArray) (b:UInt8) (w:World)
  (hs:s.size<4294967281) :
  Calls P (ρ.f 146) #[.string s,.string ⟨#[b]⟩] w fun e w'=>
   e=.returned (.slice (some ⟨w.heap.size,0,none⟩) (Lib.countB s ⟨#[b]⟩+1) (Lib.countB s ⟨#[b]⟩+1))∧w'=w.alloc (.cells ((Lib.splitB ⟨#[b]⟩ 0 (Lib.countB s ⟨#[b]⟩) s).map Value.string).toArray (ρ.t 9)):=by
 obtain ⟨sep,hsep⟩:∃ sep:ByteArray,sep=⟨#[b]⟩:=⟨_,rfl⟩
 have h1:1≤sep.size:=by rw [hsep];exact zk 1
 have hle:=Lib.countB_le sep h1 s.size s (zk _)
 have hlen:=Lib.splitB_all sep h1 0 _ s rfl
 have c:=Any.strings_genSplit_core { L with } hi9 s sep 0 (-1) (Lib.countB s sep+1) w hs h1 (zx _)
  (fun x c hx=>by rw [hsep];exact AnyOne.index { L with } x b _) (by rw [hsep];exact AnyOne.count { L with } s b w) (by decide) (by decide) (by rw [zb (by decide)];omega)
 rw [Nat.add_sub_cancel,hlen] at c
 have e2:Lib.cellsOf (Lib.splitB sep 0 (Lib.countB s sep) s) (Lib.countB s sep+1)=((Lib.splitB sep 0 (Lib.countB s sep) s).map Value.string).toArray:=by rw [← hlen];exact Lib.cellsOf_full _
 rw [e2] at c
 rw [← hsep]
 clear hsep
 have t3:=L.t3;have t9:=L.t9;have t31:=L.t31
 have a3:=L.a3;have a9:=L.a9;have a31:=L.a31
 have z3:=L.z3;have v3:=L.v3;have z9:=L.z9;have v9:=L.v9;have z31:=L.z31;have v31:=L.v31
 have e221:∀ args w,(callFunc (ρ.f 221) args).run P w=.ok (.enter (ρ.f 221) args) w:=enters_of L.f221 (by kernel_rfl) rfl
 go_enter L.f146,Body.n146_ntmps ρ
 go_wp2_with (go_at_fn (ρ.f 221);refine c.mono ?_;rintro e w' ⟨rfl,hw⟩;rw [hw])
 go_ret
 exact ⟨rfl,rfl⟩
set_option maxHeartbeats 2000000 in
theorem AnyOne.litecut (L:Lays.n220 P ρ) (s:ByteArray) (b:UInt8) (w:World) (hs:s.size<4294967281) :
  Calls P (ρ.f 220) #[.string s,.string ⟨#[b]⟩] w fun e w'=>e=.returned (.tuple #[.string ⟨(Lib.cut s.data.toList [b]).1.toArray⟩,.string ⟨(Lib.cut s.data.toList [b]).2.1.toArray⟩,.bool (Lib.cut s.data.toList [b]).2.2])∧∃ n,w'=w.drewN n:=by
 obtain ⟨sep,hsep⟩:∃ sep:ByteArray,sep=⟨#[b]⟩:=⟨_,rfl⟩
 rw [← hsep,show [b]=sep.data.toList by rw [hsep]]
 have hI:∀ w,Calls P (ρ.f 219) #[.string s,.string sep] w fun e w'=>e=.returned (.int .i64 (Lib.indexB s sep))∧w'=w:=fun w=>by
  rw [hsep]
  refine (Any.stringslite_Index_one { L with } s b w).mono fun e w' ⟨he,hw⟩=>⟨?_,hw⟩
  rw [he,jhr]
 have hsz:sep.size=1:=by rw [hsep];rfl
 clear hsep
 rcases Lib.indexB_cases s sep with hix|⟨i,hix,hroom⟩
 ·obtain ⟨e1,e2,e3⟩:=Lib.cutB_miss s sep hix
  rw [e1,e2,e3]
  have t3:=L.t3;have t4:=L.t4;have t9:=L.t9
  have a3:∀ w,(isAgg (ρ.t 3)).run P w=.ok false w:=run_isAgg_plain L.t3 rfl;have a4:∀ w,(isAgg (ρ.t 4)).run P w=.ok false w:=run_isAgg_plain L.t4 rfl;have a9:∀ w,(isAgg (ρ.t 9)).run P w=.ok false w:=run_isAgg_plain L.t9 rfl
  have e219:∀ args w,(callFunc (ρ.f 219) args).run P w=.ok (.enter (ρ.f 219) args) w:=enters_of L.f219 (by kernel_rfl) rfl
  have mixed:=L.mixed;have z3:=L.z3;have v3:=L.v3;have z4:=L.z4;have v4:=L.v4;have z9:=L.z9;have v9:=L.v9
  go_enter L.f220,Body.n220_ntmps ρ
  go_wp2_with (go_at_fn (ρ.f 219);refine (hI _).mono ?_;rintro e w' ⟨rfl,rfl⟩;rw [show Lib.indexB s sep=_ from hix])
  go_ret3
  exact ⟨rfl,0,rfl⟩
 ·obtain ⟨e1,e2,e3⟩:=Lib.cutB_hit s sep i hix
  rw [e1,e2,e3]
  have c1:(0:Int)≤↑i:=by omega
  have c2:(↑i:Int)≤↑s.size:=by omega
  have c3:(0:Int)≤↑i + ↑sep.size:=by omega
  have c4:(↑i + ↑sep.size:Int)≤↑s.size:=by omega
  have t3:=L.t3;have t4:=L.t4;have t9:=L.t9
  have a3:∀ w,(isAgg (ρ.t 3)).run P w=.ok false w:=run_isAgg_plain L.t3 rfl;have a4:∀ w,(isAgg (ρ.t 4)).run P w=.ok false w:=run_isAgg_plain L.t4 rfl;have a9:∀ w,(isAgg (ρ.t 9)).run P w=.ok false w:=run_isAgg_plain L.t9 rfl
  have e219:∀ args w,(callFunc (ρ.f 219) args).run P w=.ok (.enter (ρ.f 219) args) w:=enters_of L.f219 (by kernel_rfl) rfl
  have mixed:=L.mixed;have z3:=L.z3;have v3:=L.v3;have z4:=L.z4;have v4:=L.v4;have z9:=L.z9;have v9:=L.v9
  go_enter L.f220,Body.n220_ntmps ρ
  go_wp2_with (go_at_fn (ρ.f 219);refine (hI _).mono ?_;rintro e w' ⟨rfl,rfl⟩;rw [show Lib.indexB s sep=_ from hix])
  go_region_o
  go_wp2
  go_ret3
  exact ⟨by rw [hsz];rfl,1,rfl⟩
set_option maxHeartbeats 1000000 in
theorem AnyOne.cut (L:Lays.n145 P ρ) (s:ByteArray) (b:UInt8) (w:World) (hs:s.size<4294967281) :
  Calls P (ρ.f 145) #[.string s,.string ⟨#[b]⟩] w fun e w'=>e=.returned (.tuple #[.string ⟨(Lib.cut s.data.toList [b]).1.toArray⟩,.string ⟨(Lib.cut s.data.toList [b]).2.1.toArray⟩,.bool (Lib.cut s.data.toList [b]).2.2])∧∃ n,w'=w.drewN n:=by
 have hC:=AnyOne.litecut { L with } s b w hs
 obtain ⟨sep,hsep⟩:∃ sep:ByteArray,sep=⟨#[b]⟩:=⟨_,rfl⟩
 rw [← hsep] at hC ⊢
 clear hsep
 have t4:=L.t4;have t9:=L.t9;have t59:=L.t59
 have a4:∀ w,(isAgg (ρ.t 4)).run P w=.ok false w:=run_isAgg_plain L.t4 rfl;have a9:∀ w,(isAgg (ρ.t 9)).run P w=.ok false w:=run_isAgg_plain L.t9 rfl;have a59:∀ w,(isAgg (ρ.t 59)).run P w=.ok false w:=run_isAgg_plain L.t59 rfl
 have e220:∀ args w,(callFunc (ρ.f 220) args).run P w=.ok (.enter (ρ.f 220) args) w:=enters_of L.f220 (by kernel_rfl) rfl
 have mixed:=L.mixed;have z4:=L.z4;have v4:=L.v4;have z9:=L.z9;have v9:=L.v9;have z59:=L.z59;have v59:=L.v59
 go_enter L.f145,Body.n145_ntmps ρ
 go_wp2_with (go_at_fn (ρ.f 220);refine hC.mono ?_;rintro e w' ⟨rfl,n,rfl⟩)
 go_ret3
 exact ⟨rfl,n,rfl⟩
theorem jxn {B:Nat} {a w:World} (h:Below B a w) (n:Nat):Below B a (w.drewN n):=⟨h.os,h.tape,h.output,h.size,h.block⟩
end Go.Proofs
namespace Go.Proofs.YtcfllgdfhfcicaaGreatDoor
open Go Go.Sx Go.RowKit
set_option maxRecDepth 100000
theorem jxo (s:List UInt8) (c:UInt8) (hs:s.length≤1000000):Con Tryz.prog 61 [.str s,.str [c]] (strs (Sp.spL c s)):=by
 have hne:=Sp.spL_ne c s
 have h0:0<(Sp.spL c s).length:=List.length_pos_iff.2 hne
 refine jxm Tryz.func61 rfl (by kernel_rfl) [.str s,.str [c]] h0 (fun i hi=>by unfold encL;rfl) fun rd w vs hm ha=>?_
 obtain ⟨a,b,rfl,h1,h2⟩:=qph ha
 obtain rfl:=qik h1
 obtain rfl:=qik h2
 have h:=AnyOne.split Tryz.lays146 (by kernel_rfl) ⟨s.toArray⟩ c w (by simp [ByteArray.size];omega)
 have hd:=Lib.splitB_data ⟨#[c]⟩ 0 (Lib.countB ⟨s.toArray⟩ ⟨#[c]⟩) ⟨s.toArray⟩
 have hd2:(Lib.splitB ⟨#[c]⟩ 0 (Lib.countB ⟨s.toArray⟩ ⟨#[c]⟩) ⟨s.toArray⟩).map (·.data.toList)=Sp.spL c s:=hd.trans (Sp.split_one c s)
 have hlen:=Lib.splitB_all ⟨#[c]⟩ (zk 1) 0 _ ⟨s.toArray⟩ rfl
 generalize Lib.splitB ⟨#[c]⟩ 0 (Lib.countB ⟨s.toArray⟩ ⟨#[c]⟩) ⟨s.toArray⟩=L at h hd2 hlen
 rw [← hlen] at h
 have hl2:L.length=(Sp.spL c s).length:=by rw [← hd2,xh]
 rw [hl2] at h
 refine h.mono fun x w' ⟨he,hw⟩=>⟨_,_,_,he,zk _,hw,?_,fun i hi=>?_⟩
 ·intro v hv
  simp only [List.mem_toArray,List.mem_map] at hv
  obtain ⟨b,_,rfl⟩:=hv
  rfl
 ·have hi':i<L.length:=by rw [hl2];exact hi
  refine ⟨.string L[i],by simp [hi'],fun x hx=>?_⟩
  have e:(Sp.spL c s).getD i []=L[i].data.toList:=by
   rw [← hd2,List.getD_eq_getElem?_getD,zj,ze hi'];rfl
  simp only [encL,e,zah,Option.some.injEq] at hx
  subst hx
  exact .str _ _
theorem jhs (s:List UInt8) (c:UInt8) (hs:s.length≤1000000):Con Tryz.prog 35 [.str s,.str [c]] (.tup [.str (Lib.cut s [c]).1,.str (Lib.cut s [c]).2.1,.bool (Lib.cut s [c]).2.2]):=by
 refine qsq Tryz.func35 rfl (by kernel_rfl) [.str s,.str [c]] _ fun rd w vs hm ha=>?_
 obtain ⟨a,b,rfl,h1,h2⟩:=qph ha
 obtain rfl:=qik h1
 obtain rfl:=qik h2
 refine (AnyOne.cut Tryz.lays145 ⟨s.toArray⟩ c w (by simp [ByteArray.size];omega)).mono fun x w' ⟨he,n,hw⟩=>⟨_,he,?_,by rw [hw];exact jxn (Below.refl _ _) n⟩
 refine .tup _ _ _ rfl fun j x v hx hv=>?_
 match j,hx,hv with
 | 0,hx,hv=>cases hx;cases hv;exact .str _ _
 | 1,hx,hv=>cases hx;cases hv;exact .str _ _
 | 2,hx,hv=>cases hx;cases hv;exact .bool _ _
theorem jxp (s p:List UInt8):Con Tryz.prog 99 [.str s,.str p] (.str (Lib.trimPrefix s p)):=by
 refine qsq Tryz.func99 rfl (by kernel_rfl) [.str s,.str p] _ fun rd w vs hm ha=>?_
 obtain ⟨a,b,rfl,h1,h2⟩:=qph ha
 obtain rfl:=qik h1
 obtain rfl:=qik h2
 exact (Any.strings_TrimPrefix Tryz.lays101 ⟨s.toArray⟩ ⟨p.toArray⟩ w).mono fun x w' ⟨he,hw⟩=>⟨_,he,.str _ _,by rw [hw];exact Below.refl _ _⟩
end Go.Proofs.YtcfllgdfhfcicaaGreatDoor
end
section
namespace Go.Proofs.YtcfllgdfhfcicaaGreatDoor
open List renaming getD_eq_getElem?_getD → zd
open Go Go.Sx Go.RowKit Go.St Go.Sp
set_option maxRecDepth 100000
set_option maxHeartbeats 4000000
theorem qyc (s:List UInt8) (hs:s.length≤1000000):Con Tryz.prog 62 [.str s] (.tup [iv (numT s).1,.bool (numT s).2]):=by
 have ht:=jxp s [45]
 obtain ⟨d,hd⟩:∃ d,d=Lib.trimPrefix s [45]:=⟨_,rfl⟩
 have hdl:d.length≤s.length:=by
  rw [hd];unfold Lib.trimPrefix;split
  ·rw [xf];omega
  ·exact zk _
 have hnum:numT s=if 0<d.length∧d.length≤6∧d.all digB=true then (if d.length<s.length then -valD d else valD d,Lib.itoa (if d.length<s.length then -valD d else valD d) == s) else (0,false):=by rw [hd];rfl
 rw [← hd] at ht
 rw [hnum]
 by_cases hr:0<d.length∧d.length≤6
 ·have hd0:d≠[]:=fun h=>by rw [h] at hr;simp at hr
  refine zK {} 300 Tryz.func62 (fun c0 rdb=>?_)
  (repeat' ((conv=>whnf);first|refine Ob.auto ?_|refine zC 300 (ht) ?_|(apply zB <;> intro hb <;> (try simp [-zd] at hb) <;> try (exfalso;omega))))
  ·exfalso
   rcases hb with hb|hb
   ·exact hd0 hb
   ·omega
  ((conv=>whnf);refine qo (fun _=>rfl) 300 1 (fun i:Nat=>[(5,iv (valD (d.take i))),(20,iv i)]) (fun _=>[]) (fun i=>i≤d.length∧(d.take i).all digB=true) (fun i=>d.length - i) (0) (⟨zx _,rfl⟩) qa qa (fun _=>rfl) (by kernel_rfl) ?_;(conv=>whnf))
  intro i hi
  have hv:=jxg (d.take i) hi.2
  have hp:(10:Int) ^ (d.take i).length≤1000000:=by
   rw [zw]
   have:min i d.length≤6:=by omega
   exact jxh _ (by omega)
  by_cases hil:i<d.length
  ·have hnx:=jxf d i hil
   have hal:(d.take (i+1)).all digB=digB (d.getD i 0):=by
    have h:d.take (i+1)=d.take i++[d.getD i 0]:=by
     rw [zbc,zd,ze hil];rfl
    rw [h,List.all_append,hi.2];simp
   have hbt:qax d (i:Int)=((d.getD i 0).toNat:Int):=rfl
   have hu:=(d.getD i 0).toNat_lt
   (repeat' ((conv=>whnf);first|refine Ob.auto ?_|(refine Ob.intro (by (first|exact ⟨by omega,by omega⟩|exact ⟨by show (0:Int)≤_;omega,by show _≤(255:Int);omega⟩)) ?_)|(apply zB <;> intro hb <;> (try simp [-zd] at hb) <;> try (exfalso;omega))))
   ·rw [za fun h=>?_]
    ·exact Le.refl _
    ·have:=List.all_eq_true.1 h.2.2 _ (qe d i 0 hil)
     have:=zi this
     omega
   ·have hdg:digB (d.getD i 0)=true:=zo (by omega)
    rw [hdg] at hal
    ((conv=>whnf);refine ⟨i+1,⟨by omega,hal⟩,⟨⟨Le.of_eq (congrArg (AV.int _) hnx.symm),Le.refl _,trivial⟩,trivial⟩,⟨qa,qa⟩,?_⟩;(first|omega|(dsimp only;omega)|skip))
  ·obtain he:i=d.length:=by omega
   have hda:d.all digB=true:=by have:=hi.2;rw [he,zav] at this;exact this
   rw [he,zav] at hv hp ⊢
   rw [zb ⟨hr.1,hr.2,hda⟩]
   have hc1:=qil (valD d) (by omega) (by omega)
   have hc2:=qil (-valD d) (by omega) (by omega)
   by_cases hm:d.length<s.length
   ·rw [zb hm]
    rw [show (-valD d:Int)=0 - valD d by omega] at hc2 ⊢
    (repeat' ((conv=>whnf);first|refine Ob.auto ?_|refine zC 300 (hc2) ?_|(apply zB <;> intro hb <;> (try simp [-zd] at hb) <;> try (exfalso;omega))))
    all_goals first|exact Le.refl _
   ·rw [za hm]
    (repeat' ((conv=>whnf);first|refine Ob.auto ?_|refine zC 300 (hc1) ?_|(apply zB <;> intro hb <;> (try simp [-zd] at hb) <;> try (exfalso;omega))))
    all_goals first|exact Le.refl _
 ·rw [za (fun h=>hr ⟨h.1,h.2.1⟩)]
  refine zK {} 300 Tryz.func62 (fun c0 rdb=>?_)
  (repeat' ((conv=>whnf);first|refine Ob.auto ?_|refine zC 300 (ht) ?_|(apply zB <;> intro hb <;> (try simp [-zd] at hb) <;> try (exfalso;omega))))
  ·exact Le.refl _
  ·exfalso
   exact hr ⟨List.length_pos_iff.2 hb.1,by omega⟩
theorem jht {s:List UInt8} {k:Int} (h0:0≤k) (h3:k≤3) (h:s=jp k):jb s=k:=by
 subst h
 obtain rfl|rfl|rfl|rfl:k=0∨k=1∨k=2∨k=3:=by omega
 all_goals decide
theorem jxq {s:List UInt8} (h:∀ j:Int,0≤j→j≤3→s≠jp j):jb s=-1:=by
 unfold jb
 rw [za (h 0 (by decide) (by decide)),za (h 1 (by decide) (by decide)),za (h 2 (by decide) (by decide)),za (h 3 (by decide) (by decide))]
theorem jxr (s:List UInt8):Con Tryz.prog 63 [.str s] (.tup [iv (if jb s<0 then 0 else jb s),.bool (decide (0≤jb s))]):=by
 refine zK {} 300 Tryz.func63 (fun c0 rdb=>?_)
 ((conv=>whnf);refine qo (fun _=>rfl) 300 1 (fun i:Nat=>[(4,iv i)]) (fun _=>[]) (fun i=>i≤4∧∀ j:Int,0≤j→j<i→s≠jp j) (fun i=>4 - i) (0) (⟨by omega,fun j h0 h1=>by omega⟩) qa qa (fun _=>rfl) (by kernel_rfl) ?_;(conv=>whnf))
 intro i hi
 by_cases hi4:i<4
 ·(repeat' ((conv=>whnf);first|refine Ob.auto ?_|refine zC 300 (qxx (i:Int)) ?_|(apply zB <;> intro hb <;> (try simp [-zd] at hb) <;> try (exfalso;omega))))
  ·rw [jht (k:=i) (by omega) (by omega) (by first|exact hb.symm|exact hb),za (by omega),zo (by omega)]
   exact Le.refl _
  ·((conv=>whnf);refine ⟨i+1,⟨by omega,fun j h0 h1=>?_⟩,⟨qa,qa⟩,⟨qa,qa⟩,?_⟩;(first|omega|(dsimp only;omega)|skip))
   ·by_cases hji:j=i
    ·subst hji
     first|exact hb|exact fun h=>hb h.symm
    ·exact hi.2 j h0 (by omega)
   ·omega
 ·(repeat' ((conv=>whnf);first|refine Ob.auto ?_|(apply zB <;> intro hb <;> (try simp [-zd] at hb) <;> try (exfalso;omega))))
  rw [jxq (fun j h0 h1=>hi.2 j h0 (by omega))]
  exact Le.refl _
theorem qfu (n j:Nat) (hj:j<n):(List.range n).getD j 0=j:=by
 rw [zd,List.getElem?_range hj];rfl
theorem jxs (m:Md) (hM:ModOk m) (hn:NmOk m) (s:List UInt8) (k:Int):Con Tryz.prog 64 [m.av,.str s,iv k] (.tup [iv (if k=2∨k=3 then -1 else if qbk m s<0 then 0 else qbk m s),.bool (if k=2∨k=3 then s == [45] else decide (0≤qbk m s))]):=by
 have hpl:m.procs.length≤1000000:=by have:=hM.sz.2.1;omega
 by_cases hk:k=2∨k=3
 ·rw [zb hk,zb hk]
  refine zK {} 300 Tryz.func64 (fun c0 rdb=>?_)
  (repeat' ((conv=>whnf);first|refine Ob.auto ?_|(apply zB <;> intro hb <;> (try simp [-zd] at hb) <;> try (exfalso;omega))))
  all_goals first|exact Le.refl _|(exfalso;omega)
 ·rw [za hk,za hk]
  refine zK {} 300 Tryz.func64 (fun c0 rdb=>?_)
  (repeat' ((conv=>whnf);first|refine Ob.auto ?_|(apply zB <;> intro hb <;> (try simp [-zd] at hb) <;> try (exfalso;omega))))
  all_goals try (exfalso;omega)
  ((conv=>whnf);refine qo (fun _=>rfl) 300 1 (fun i:Nat=>[(20,iv i)]) (fun _=>[]) (fun i=>i≤m.procs.length∧∀ j,j<i→(whoT m (j:Nat) == s)=false) (fun i=>m.procs.length - i) (0) (⟨zx _,fun j hj=>absurd hj (zh j)⟩) qa qa (fun _=>rfl) (by kernel_rfl) ?_;(conv=>whnf))
  intro i hi
  by_cases hil:i<m.procs.length
  ·cases hw:whoT m (i:Int) == s with
   | true=>
    have hp:qbk m s=i:=by
     unfold qbk
     refine qdt _ _ 0 i (by simpa using hil) (by rw [qfu _ _ hil];exact hw) fun j hj=>?_
     rw [qfu _ _ (by omega)];exact hi.2 j hj
    rw [hp,za (by omega),zo (by omega)]
    have hw:=eq_of_beq hw
    (repeat' ((conv=>whnf);first|refine Ob.auto ?_|refine zC 300 (qpi m hM hn (i:Int)) ?_|(apply zB <;> intro hb <;> (try simp [-zd] at hb) <;> try (exfalso;omega))))
    all_goals first|exact Le.refl _|(exfalso;first|exact hb hw|exact hb hw.symm|omega)
   | false=>
    (repeat' ((conv=>whnf);first|refine Ob.auto ?_|refine zC 300 (qpi m hM hn (i:Int)) ?_|(apply zB <;> intro hb <;> (try simp [-zd] at hb) <;> try (exfalso;omega))))
    ·exfalso;rw [hb] at hw;simp at hw
    ·((conv=>whnf);refine ⟨i+1,⟨by omega,fun j hj=>?_⟩,⟨qa,qa⟩,⟨qa,qa⟩,?_⟩;(first|omega|(dsimp only;omega)|skip))
     ·by_cases hji:j=i
      ·subst hji;exact hw
      ·exact hi.2 j (by omega)
     ·omega
  ·have hp:qbk m s=-1:=by
    unfold qbk
    refine qev _ _ 0 fun j hj=>?_
    have hj:j<m.procs.length:=by simpa using hj
    rw [qfu _ _ hj];exact hi.2 j (by omega)
   rw [hp,zb (by decide),xx (by decide)]
   (repeat' ((conv=>whnf);first|refine Ob.auto ?_|(apply zB <;> intro hb <;> (try simp [-zd] at hb) <;> try (exfalso;omega))))
   all_goals first|exact Le.refl _|(exfalso;omega)
end Go.Proofs.YtcfllgdfhfcicaaGreatDoor
end
