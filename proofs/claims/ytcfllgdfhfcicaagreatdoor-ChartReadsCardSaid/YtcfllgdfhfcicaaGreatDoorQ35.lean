/- Some texts of the library, one behind the other. -/
import Derived.Test.YtcfllgdfhfcicaaGreatDoorQ26
import Derived.Test.YtcfllgdfhfcicaaGreatDoorQ34
import Derived.Test.YtcfllgdfhfcicaaGreatDoorQ24
import Derived.Lib.SplitLaws
import Derived.Lib.IndexMore
import Derived.Lib.IndexBytes
import Derived.Lib.ItoaNum
import Derived.Test.YtcfllgdfhfcicaaGreatDoorQ31
import Derived.Test.YtcfllgdfhfcicaaGreatDoorQ2
import Derived.Test.YtcfllgdfhfcicaaGreatDoorQ32
import Derived.Test.YtcfllgdfhfcicaaGreatDoorQ3
import Derived.Shelf.Strings.SplitShaped
import Derived.Shelf.Strings.Cut
import Derived.Shelf.Strings.Prefix
section
namespace Go.Proofs.YtcfllgdfhfcicaaGreatDoor
open Go Go.Sx Go.RowKit Go.St
set_option maxRecDepth 100000
set_option maxHeartbeats 2000000
def jfq:List Mv:=[⟨0,0,0,0⟩,⟨0,1,0,0⟩]
theorem jug:qq model26 (qbo model26)=true:=by decide +kernel
theorem jfr:NmOk model26:=qvk ▸ jey (by decide +kernel)
theorem juh:qnx model26 (qdl model26 jfq)=[48,32,112,46,48,32,115,101,110,100,32,99,32,49,10,49,32,113,46,48,32,114,101,99,118,32,99,32,49,32,111,102,32,48,10]:=by decide +kernel
theorem qre:Con Tryz.prog 7 [] (.bool true):=by
 have h1:=jue model26 jds jfr jug jfq (by decide)
 rw [juh] at h1
 have h2:=qnz model26 jds jfr 9
 rw [show whoT model26 9=[45] by decide +kernel] at h2
 refine zK {} 300 Tryz.func7 (fun c0 rdb=>?_)
 (repeat' ((conv=>whnf);first|refine zC 300 (jrh) ?_|refine zC 300 (jri) ?_|fail))
 ((conv=>whnf);refine qdz (fun _=>rfl) 300 h1 (by rfl) ⟨Le.refl _,Le.slc rfl (fun j hj=>?_),trivial⟩ (by kernel_rfl) ?_)
 ·have hj:j<2:=hj
  match j,hj with
  | 0,_=>rfl
  | 1,_=>rfl
 (repeat' ((conv=>whnf);first|refine Ob.auto ?_|refine zG 300 (fun hg=>h2) ?_|fail))
 exact Le.of_eq (congrArg AV.bool (by kernel_rfl))
end Go.Proofs.YtcfllgdfhfcicaaGreatDoor
end
section
namespace Go.St
open Go Go.Sx
section
variable {l:List Nd} (ht:Tree l) (hw:∀ i,i<l.length→qbg l i=0)
include hw
include ht
end
end Go.St
end
section
namespace Go.Proofs.YtcfllgdfhfcicaaGreatDoor
open Go Go.Sx Go.RowKit Go.St
set_option maxRecDepth 100000
set_option maxHeartbeats 8000000
theorem jui {l:List Nd} (h:(qcx l).2=true):Go.St.rightB l=true:=by
 unfold qcx at h
 split at h
 ·rename_i e
  exact e.1.2
 ·cases h
end Go.Proofs.YtcfllgdfhfcicaaGreatDoor
end
section
namespace Go.Sp
open Go Go.Lib
def spL (c:UInt8):List UInt8→List (List UInt8)
 | []=>[[]]
 | b::r=>if b=c then []::spL c r else match spL c r with|[]=>[[b]]|w::ws=>(b::w)::ws
theorem spL_ne (c:UInt8) (l:List UInt8):spL c l≠[]:=by
 cases l with
 | nil=>simp [spL]
 | cons b r=>
  unfold spL
  split
  ·simp
  ·split <;> simp
theorem qwf {c:UInt8}:∀ {l:List UInt8},(∀ b∈l,b≠c)→spL c l=[l]
 | [],_=>rfl
 | b::r,h=>by
  unfold spL
  rw [if_neg (h b (List.mem_cons_self ..)),qwf (fun x hx=>h x (List.mem_cons_of_mem _ hx))]
theorem qwg {c:UInt8}:∀ {a:List UInt8} (r:List UInt8),(∀ b∈a,b≠c)→spL c (a++c::r)=a::spL c r
 | [],r,_=>by simp [spL]
 | b::a,r,h=>by
  rw [List.cons_append,spL,if_neg (h b (List.mem_cons_self ..)),qwg r (fun x hx=>h x (List.mem_cons_of_mem _ hx))]
theorem qoa (c:UInt8):∀ (s:List UInt8),(index s [c]=-1∧∀ b∈s,b≠c)∨∃ a r,s=a++c::r∧(∀ b∈a,b≠c)∧index s [c]=a.length
 | []=>.inl ⟨rfl,fun _ h=>absurd h (List.not_mem_nil)⟩
 | b::s=>by
  unfold index
  by_cases h:b=c
  ·subst h
   exact .inr ⟨[],s,rfl,fun _ h=>absurd h (List.not_mem_nil),by simp [List.isPrefixOf]⟩
  ·have hp:List.isPrefixOf [c] (b::s)=false:=by simp [List.isPrefixOf,Ne.symm h]
   rw [hp]
   simp only [Bool.false_eq_true,if_false]
   rcases qoa c s with ⟨h1,h2⟩|⟨a,r,h1,h2,h3⟩
   ·refine .inl ⟨by rw [h1];rfl,fun x hx=>?_⟩
    rcases List.mem_cons.1 hx with rfl|hx
    ·exact h
    ·exact h2 x hx
   ·refine .inr ⟨b::a,r,by rw [h1];rfl,fun x hx=>?_,?_⟩
    ·rcases List.mem_cons.1 hx with rfl|hx
     ·exact h
     ·exact h2 x hx
    ·rw [h3,if_neg (by simp)];simp
theorem jfs (c:UInt8):∀ (n:Nat) (s:List UInt8),s.count c=n→splitK [c] 0 n s=spL c s
 | 0,s,h=>by
  rw [splitK,qwf fun b hb e=>?_]
  subst e
  exact absurd (List.count_pos_iff.2 hb) (by omega)
 | n+1,s,h=>by
  rcases qoa c s with ⟨h1,h2⟩|⟨a,r,h1,h2,h3⟩
  ·have:=List.count_eq_zero.2 (fun hm=>h2 c hm rfl)
   omega
  ·have ha:a.count c=0:=List.count_eq_zero.2 (fun hm=>h2 c hm rfl)
   rw [splitK,h3,if_neg (by simp),h1,qwg r h2,← jfs c n r (by rw [h1] at h;simp [ha] at h;omega)]
   simp [← List.drop_drop]
theorem split_one (c:UInt8) (s:List UInt8):splitK [c] 0 (count s [c]) s=spL c s:=jfs c _ s (count_one c s).symm
theorem juj {c:UInt8} {s:List UInt8} (h:∀ b∈s,b≠c):cut s [c]=(s,[],false):=by
 rcases qoa c s with ⟨h1,_⟩|⟨a,r,h1,_,_⟩
 ·unfold cut;rw [h1];rfl
 ·exact absurd rfl (h c (by rw [h1];simp))
theorem juk {c:UInt8} {a:List UInt8} (r:List UInt8) (h:∀ b∈a,b≠c):cut (a++c::r) [c]=(a,r,true):=by
 rcases qoa c (a++c::r) with ⟨_,h2⟩|⟨a',r',h1,h2,h3⟩
 ·exact absurd rfl (h2 c (by simp))
 ·have hl:a'.length=a.length:=by
   rcases Nat.lt_trichotomy a.length a'.length with hl|hl|hl
   ·have e:=congrArg (fun l=>l[a.length]?) h1
    simp only [List.getElem?_append_right (Nat.le_refl _),Nat.sub_self,List.getElem?_cons_zero,List.getElem?_append_left hl] at e
    exact absurd rfl (h2 c (List.mem_of_getElem? e.symm))
   ·exact hl.symm
   ·have e:=congrArg (fun l=>l[a'.length]?) h1
    simp only [List.getElem?_append_right (Nat.le_refl _),Nat.sub_self,List.getElem?_cons_zero,List.getElem?_append_left hl] at e
    exact absurd rfl (h c (List.mem_of_getElem? e))
  unfold cut
  rw [h3,hl,if_pos (by omega)]
  simp [← List.drop_drop]
end Go.Sp
end
section
namespace Go.Proofs.YtcfllgdfhfcicaaGreatDoor
open Go
set_option maxRecDepth 100000
def digB (b:UInt8):Bool:=decide (48≤b.toNat∧b.toNat≤57)
def valD (d:List UInt8):Int:=d.foldl (fun n b=>10 * n+((b.toNat:Int) - 48)) 0
theorem qwh (d:List UInt8) (k:Nat) (hk:k<d.length):valD (d.take (k+1))=10 * valD (d.take k)+(((d.getD k 0).toNat:Int) - 48):=by
 have h:d.take (k+1)=d.take k++[d.getD k 0]:=by
  rw [List.take_add_one,List.getD_eq_getElem?_getD,List.getElem?_eq_getElem hk];rfl
 unfold valD
 rw [h,List.foldl_append]
 rfl
theorem qrf (d:List UInt8) (h:d.all digB=true):0≤valD d∧valD d<10 ^ d.length:=by
 have key:∀ (l:List UInt8) (n:Int) (k:Nat),l.all digB=true→0≤n→n<10 ^ k→0≤l.foldl (fun n b=>10 * n+((b.toNat:Int) - 48)) n∧l.foldl (fun n b=>10 * n+((b.toNat:Int) - 48)) n<10 ^ (k+l.length):=by
  intro l
  induction l with
  | nil=>intro n k _ h0 h1;exact ⟨h0,h1⟩
  | cons b l ih=>
   intro n k hl h0 h1
   rw [List.all_cons,Bool.and_eq_true] at hl
   have hb:=of_decide_eq_true hl.1
   have h2:=ih (10 * n+((b.toNat:Int) - 48)) (k+1) hl.2 (by omega) (by rw [Int.pow_succ];omega)
   rw [show k+1+l.length=k+(b::l).length by simp;omega] at h2
   exact h2
 have:=key d 0 0 h (Int.le_refl _) (by decide)
 rw [Nat.zero_add] at this
 exact this
theorem qrg:∀ k,k<7→(10:Int) ^ k≤1000000:=by decide
theorem qwi (u:Nat):(Lib.decDigits u).all digB=true∧valD (Lib.decDigits u)=u∧0<(Lib.decDigits u).length:=by
  rw [Lib.decDigits]
  by_cases h:u<10
  ·rw [dif_pos h]
   have hb:(UInt8.ofNat (48+u)).toNat=48+u:=by simp;omega
   refine ⟨?_,?_,by simp⟩
   ·simp only [List.all_cons,List.all_nil,Bool.and_true,digB,hb]
    exact decide_eq_true ⟨by omega,by omega⟩
   ·simp only [valD,List.foldl_cons,List.foldl_nil,hb]
    omega
  ·rw [dif_neg h]
   obtain ⟨h1,h2,h3⟩:=qwi (u / 10)
   have hb:(UInt8.ofNat (48+u % 10)).toNat=48+u % 10:=by simp;omega
   refine ⟨?_,?_,by simp⟩
   ·rw [List.all_append,h1]
    simp only [List.all_cons,List.all_nil,Bool.and_true,digB,hb,Bool.true_and]
    exact decide_eq_true ⟨by omega,by omega⟩
   ·unfold valD at h2 ⊢
    rw [List.foldl_append,h2]
    simp only [List.foldl_cons,List.foldl_nil,hb]
    omega
termination_by u
theorem jft:∀ (k u:Nat),u<10 ^ (k+1)→(Lib.decDigits u).length≤k+1
 | 0,u,h=>by rw [Lib.decDigits,dif_pos (by simpa using h)];simp
 | k+1,u,h=>by
  rw [Lib.decDigits]
  by_cases hu:u<10
  ·rw [dif_pos hu];simp
  ·rw [dif_neg hu,List.length_append]
   have:=jft k (u / 10) (by rw [Nat.pow_succ] at h;omega)
   simp;omega
end Go.Proofs.YtcfllgdfhfcicaaGreatDoor
end
section
namespace Go.Proofs.YtcfllgdfhfcicaaGreatDoor
open Go Go.Sx Go.RowKit Go.St Go.Sp
set_option maxRecDepth 100000
def numT (s:List UInt8):Int × Bool:=
  if 0<(Lib.trimPrefix s [45]).length∧(Lib.trimPrefix s [45]).length≤6∧(Lib.trimPrefix s [45]).all digB=true then
    (if (Lib.trimPrefix s [45]).length<s.length then -valD (Lib.trimPrefix s [45]) else valD (Lib.trimPrefix s [45]),
     Lib.itoa (if (Lib.trimPrefix s [45]).length<s.length then -valD (Lib.trimPrefix s [45]) else valD (Lib.trimPrefix s [45])) == s)
  else (0,false)
def qy (s:List UInt8):Int:=if s=qcd 0 then 0 else if s=qcd 1 then 1 else if s=qcd 2 then 2 else if s=qcd 3 then 3 else -1
def qas (m:Md) (s:List UInt8):Int:=Go.St.idx (fun p:Nat=>whoT m p == s) (List.range m.procs.length)
def qgn (m:Md) (s:List UInt8):Int:=Go.St.idx (fun c:Ch=>c.name == s) m.chans
theorem qob (s:List UInt8):-1≤qy s∧qy s≤3:=by
 unfold qy
 repeat' split
 all_goals decide
def EvIs (m:Md) (w:List (List UInt8)) (es:List Ev):Prop:=
 (w.length=5∨w.length=7)∧w.getD 0 []=Lib.itoa (es.length:Int)∧0≤qy (w.getD 2 [])∧(qy (w.getD 2 [])=0↔w.length=5) ∧
 (if qy (w.getD 2 [])≤1 then 0≤qas m (w.getD 1 []) else w.getD 1 []=[45])∧(numT (w.getD 4 [])).2=true∧0≤qgn m (w.getD 3 []) ∧
 (qy (w.getD 2 [])=0∨(w.getD 5 []=[111,102]∧(numT (w.getD 6 [])).2=true∧0≤(numT (w.getD 6 [])).1∧(numT (w.getD 6 [])).1<es.length ∧
  (es.getD (numT (w.getD 6 [])).1.toNat {}).ch=qgn m (w.getD 3 [])∧(es.getD (numT (w.getD 6 [])).1.toNat {}).kind≠1∧(es.getD (numT (w.getD 6 [])).1.toNat {}).kind≠2))
instance (m:Md) (w:List (List UInt8)) (es:List Ev):Decidable (EvIs m w es):=by unfold EvIs;infer_instance
def evT (m:Md) (w:List (List UInt8)):Ev:=
 ⟨qy (w.getD 2 []),0,if qy (w.getD 2 [])≤1 then qas m (w.getD 1 []) else -1,qgn m (w.getD 3 []),(numT (w.getD 4 [])).1,if qy (w.getD 2 [])=0 then -1 else (numT (w.getD 6 [])).1⟩
def evF (m:Md) (w:List (List UInt8)) (es:List Ev):Option Ev:=if EvIs m w es then some (evT m w) else none
def goL (m:Md):List (List UInt8)→List Ev→Option (List Ev)
 | [],_=>none
 | [l],es=>if l=[] then some es else none
 | l::l'::r,es=>match evF m (spL 32 l) es with|some e=>goL m (l'::r) (es++[e])|none=>none
def qir (m:Md) (s:List UInt8):Option (List Ev):=goL m (spL 10 s) []
theorem qwj (m:Md) (es:List Ev):goL m (spL 10 []) es=some es:=rfl
theorem qwk (m:Md) {s:List UInt8} (es:List Ev) (h:∀ b∈s,b≠10) (h0:s≠[]):goL m (spL 10 s) es=none:=by
 rw [qwf h]
 exact if_neg h0
theorem qwl (m:Md) {a:List UInt8} (r:List UInt8) (es:List Ev) (h:∀ b∈a,b≠10):goL m (spL 10 (a++10::r)) es=match evF m (spL 32 a) es with|some e=>goL m (spL 10 r) (es++[e])|none=>none:=by
 rw [qwg r h]
 have:=spL_ne 10 r
 cases hr:spL 10 r with
 | nil=>exact absurd hr this
 | cons l' r'=>rfl
theorem jfu (c:UInt8) (s:List UInt8):(∀ b∈s,b≠c)∨∃ a r,s=a++c::r∧∀ b∈a,b≠c:=by
 rcases qoa c s with ⟨_,h⟩|⟨a,r,h1,h2,_⟩
 ·exact .inl h
 ·exact .inr ⟨a,r,h1,h2⟩
structure RdOk (m:Md) (es:List Ev):Prop where
 kind:∀ e∈es,0≤e.kind∧e.kind≤3
 chn:∀ e∈es,0≤e.ch∧e.ch<m.chans.length
theorem jfv {m:Md} {w:List (List UInt8)} {es:List Ev} (h:EvIs m w es):(0≤(evT m w).kind∧(evT m w).kind≤3)∧0≤(evT m w).ch∧(evT m w).ch<m.chans.length:=
 ⟨⟨h.2.2.1,(qob _).2⟩,h.2.2.2.2.2.2.1,(qee _ _).2⟩
end Go.Proofs.YtcfllgdfhfcicaaGreatDoor
end
section
namespace Go.Proofs
open Go Go.Shelf Go.RowKit Go.Lib
variable {P:Program} {ρ:Ren}
theorem jfw (s:ByteArray) (c:UInt8):Lib.indexB s ⟨#[c]⟩=Lib.indexByte s.data.toList c:=Lib.index_one s.data.toList c
theorem AnyOne.count (L:Lays.n138 P ρ) (s:ByteArray) (c:UInt8) (w:World) :
  Calls P (ρ.f 138) #[.string s,.string ⟨#[c]⟩] w fun e w'=>e=.returned (.int .i64 (Lib.countB s ⟨#[c]⟩))∧w'=w:=by
 refine (Any.strings_Count_one L s c w).mono fun e w' ⟨he,hw⟩=>⟨?_,hw⟩
 rw [he]
 show _=Ending.returned (Value.int .i64 ((Lib.count s.data.toList [c]:Nat):Int))
 rw [Lib.count_one]
 rfl
theorem AnyOne.index (L:Lays.n143 P ρ) (s:ByteArray) (c:UInt8) (w:World) :
  Calls P (ρ.f 143) #[.string s,.string ⟨#[c]⟩] w fun e w'=>e=.returned (.int .i64 (Lib.indexB s ⟨#[c]⟩))∧w'=w:=by
 refine (Any.strings_Index_one L s c w).mono fun e w' ⟨he,hw⟩=>⟨?_,hw⟩
 rw [he,jfw]
set_option maxHeartbeats 1000000 in
theorem AnyOne.split (L:Lays.n146 P ρ) (hi9:(P.info? (ρ.t 9)).map (fun i=>(i.zero,i.size,i.bytes))=some (some (.string ByteArray.empty),1,16)) (s:ByteArray) (b:UInt8) (w:World)
  (hs:s.size<4294967281) :
  Calls P (ρ.f 146) #[.string s,.string ⟨#[b]⟩] w fun e w'=>
   e=.returned (.slice (some ⟨w.heap.size,0,none⟩) (Lib.countB s ⟨#[b]⟩+1) (Lib.countB s ⟨#[b]⟩+1))∧w'=w.alloc (.cells ((Lib.splitB ⟨#[b]⟩ 0 (Lib.countB s ⟨#[b]⟩) s).map Value.string).toArray (ρ.t 9)):=by
 obtain ⟨sep,hsep⟩:∃ sep:ByteArray,sep=⟨#[b]⟩:=⟨_,rfl⟩
 have h1:1≤sep.size:=by rw [hsep];exact Nat.le_refl 1
 have hle:=Lib.countB_le sep h1 s.size s (Nat.le_refl _)
 have hlen:=Lib.splitB_all sep h1 0 _ s rfl
 have c:=Any.strings_genSplit_core { L with } hi9 s sep 0 (-1) (Lib.countB s sep+1) w hs h1 (Nat.zero_le _)
  (fun x c hx=>by rw [hsep];exact AnyOne.index { L with } x b _) (by rw [hsep];exact AnyOne.count { L with } s b w) (by decide) (by decide) (by rw [if_pos (by decide)];omega)
 rw [Nat.add_sub_cancel,hlen] at c
 have e2:Lib.cellsOf (Lib.splitB sep 0 (Lib.countB s sep) s) (Lib.countB s sep+1)=((Lib.splitB sep 0 (Lib.countB s sep) s).map Value.string).toArray:=by rw [← hlen];exact Lib.cellsOf_full _
 rw [e2] at c
 rw [← hsep]
 clear hsep
 have t3:=L.t3;have t9:=L.t9;have t31:=L.t31
 have a3:=L.a3;have a9:=L.a9;have a31:=L.a31
 have z3:=L.z3;have v3:=L.v3;have z9:=L.z9;have v9:=L.v9;have z31:=L.z31;have v31:=L.v31
 have e221:∀ args w,(callFunc (ρ.f 221) args).run P w=.ok (.enter (ρ.f 221) args) w:=enters_of L.f221 (by kernel_rfl) rfl
 go_enter L.f146,Body.n146_ntmps ρ
 go_wp2_with (go_at_fn (ρ.f 221);refine c.mono ?_;rintro e w' ⟨rfl,hw⟩;rw [hw])
 go_ret
 exact ⟨rfl,rfl⟩
set_option maxHeartbeats 2000000 in
theorem AnyOne.litecut (L:Lays.n220 P ρ) (s:ByteArray) (b:UInt8) (w:World) (hs:s.size<4294967281) :
  Calls P (ρ.f 220) #[.string s,.string ⟨#[b]⟩] w fun e w'=>e=.returned (.tuple #[.string ⟨(Lib.cut s.data.toList [b]).1.toArray⟩,.string ⟨(Lib.cut s.data.toList [b]).2.1.toArray⟩,.bool (Lib.cut s.data.toList [b]).2.2])∧∃ n,w'=w.drewN n:=by
 obtain ⟨sep,hsep⟩:∃ sep:ByteArray,sep=⟨#[b]⟩:=⟨_,rfl⟩
 rw [← hsep,show [b]=sep.data.toList by rw [hsep]]
 have hI:∀ w,Calls P (ρ.f 219) #[.string s,.string sep] w fun e w'=>e=.returned (.int .i64 (Lib.indexB s sep))∧w'=w:=fun w=>by
  rw [hsep]
  refine (Any.stringslite_Index_one { L with } s b w).mono fun e w' ⟨he,hw⟩=>⟨?_,hw⟩
  rw [he,jfw]
 have hsz:sep.size=1:=by rw [hsep];rfl
 clear hsep
 rcases Lib.indexB_cases s sep with hix|⟨i,hix,hroom⟩
 ·obtain ⟨e1,e2,e3⟩:=Lib.cutB_miss s sep hix
  rw [e1,e2,e3]
  have t3:=L.t3;have t4:=L.t4;have t9:=L.t9
  have a3:∀ w,(isAgg (ρ.t 3)).run P w=.ok false w:=run_isAgg_plain L.t3 rfl;have a4:∀ w,(isAgg (ρ.t 4)).run P w=.ok false w:=run_isAgg_plain L.t4 rfl;have a9:∀ w,(isAgg (ρ.t 9)).run P w=.ok false w:=run_isAgg_plain L.t9 rfl
  have e219:∀ args w,(callFunc (ρ.f 219) args).run P w=.ok (.enter (ρ.f 219) args) w:=enters_of L.f219 (by kernel_rfl) rfl
  have mixed:=L.mixed;have z3:=L.z3;have v3:=L.v3;have z4:=L.z4;have v4:=L.v4;have z9:=L.z9;have v9:=L.v9
  go_enter L.f220,Body.n220_ntmps ρ
  go_wp2_with (go_at_fn (ρ.f 219);refine (hI _).mono ?_;rintro e w' ⟨rfl,rfl⟩;rw [show Lib.indexB s sep=_ from hix])
  go_ret3
  exact ⟨rfl,0,rfl⟩
 ·obtain ⟨e1,e2,e3⟩:=Lib.cutB_hit s sep i hix
  rw [e1,e2,e3]
  have c1:(0:Int)≤↑i:=by omega
  have c2:(↑i:Int)≤↑s.size:=by omega
  have c3:(0:Int)≤↑i + ↑sep.size:=by omega
  have c4:(↑i + ↑sep.size:Int)≤↑s.size:=by omega
  have t3:=L.t3;have t4:=L.t4;have t9:=L.t9
  have a3:∀ w,(isAgg (ρ.t 3)).run P w=.ok false w:=run_isAgg_plain L.t3 rfl;have a4:∀ w,(isAgg (ρ.t 4)).run P w=.ok false w:=run_isAgg_plain L.t4 rfl;have a9:∀ w,(isAgg (ρ.t 9)).run P w=.ok false w:=run_isAgg_plain L.t9 rfl
  have e219:∀ args w,(callFunc (ρ.f 219) args).run P w=.ok (.enter (ρ.f 219) args) w:=enters_of L.f219 (by kernel_rfl) rfl
  have mixed:=L.mixed;have z3:=L.z3;have v3:=L.v3;have z4:=L.z4;have v4:=L.v4;have z9:=L.z9;have v9:=L.v9
  go_enter L.f220,Body.n220_ntmps ρ
  go_wp2_with (go_at_fn (ρ.f 219);refine (hI _).mono ?_;rintro e w' ⟨rfl,rfl⟩;rw [show Lib.indexB s sep=_ from hix])
  go_region_o
  go_wp2
  go_ret3
  exact ⟨by rw [hsz];rfl,1,rfl⟩
set_option maxHeartbeats 1000000 in
theorem AnyOne.cut (L:Lays.n145 P ρ) (s:ByteArray) (b:UInt8) (w:World) (hs:s.size<4294967281) :
  Calls P (ρ.f 145) #[.string s,.string ⟨#[b]⟩] w fun e w'=>e=.returned (.tuple #[.string ⟨(Lib.cut s.data.toList [b]).1.toArray⟩,.string ⟨(Lib.cut s.data.toList [b]).2.1.toArray⟩,.bool (Lib.cut s.data.toList [b]).2.2])∧∃ n,w'=w.drewN n:=by
 have hC:=AnyOne.litecut { L with } s b w hs
 obtain ⟨sep,hsep⟩:∃ sep:ByteArray,sep=⟨#[b]⟩:=⟨_,rfl⟩
 rw [← hsep] at hC ⊢
 clear hsep
 have t4:=L.t4;have t9:=L.t9;have t59:=L.t59
 have a4:∀ w,(isAgg (ρ.t 4)).run P w=.ok false w:=run_isAgg_plain L.t4 rfl;have a9:∀ w,(isAgg (ρ.t 9)).run P w=.ok false w:=run_isAgg_plain L.t9 rfl;have a59:∀ w,(isAgg (ρ.t 59)).run P w=.ok false w:=run_isAgg_plain L.t59 rfl
 have e220:∀ args w,(callFunc (ρ.f 220) args).run P w=.ok (.enter (ρ.f 220) args) w:=enters_of L.f220 (by kernel_rfl) rfl
 have mixed:=L.mixed;have z4:=L.z4;have v4:=L.v4;have z9:=L.z9;have v9:=L.v9;have z59:=L.z59;have v59:=L.v59
 go_enter L.f145,Body.n145_ntmps ρ
 go_wp2_with (go_at_fn (ρ.f 220);refine hC.mono ?_;rintro e w' ⟨rfl,n,rfl⟩)
 go_ret3
 exact ⟨rfl,n,rfl⟩
theorem jum {B:Nat} {a w:World} (h:Below B a w) (n:Nat):Below B a (w.drewN n):=⟨h.os,h.tape,h.output,h.size,h.block⟩
end Go.Proofs
namespace Go.Proofs.YtcfllgdfhfcicaaGreatDoor
open Go Go.Sx Go.RowKit
set_option maxRecDepth 100000
theorem jun (s:List UInt8) (c:UInt8) (hs:s.length≤1000000):Con Tryz.prog 61 [.str s,.str [c]] (strs (Sp.spL c s)):=by
 have hne:=Sp.spL_ne c s
 have h0:0<(Sp.spL c s).length:=List.length_pos_iff.2 hne
 refine jul Tryz.func61 rfl (by kernel_rfl) [.str s,.str [c]] h0 (fun i hi=>by unfold encL;rfl) fun rd w vs hm ha=>?_
 obtain ⟨a,b,rfl,h1,h2⟩:=qny ha
 obtain rfl:=qhq h1
 obtain rfl:=qhq h2
 have h:=AnyOne.split Tryz.lays146 (by kernel_rfl) ⟨s.toArray⟩ c w (by simp [ByteArray.size];omega)
 have hd:=Lib.splitB_data ⟨#[c]⟩ 0 (Lib.countB ⟨s.toArray⟩ ⟨#[c]⟩) ⟨s.toArray⟩
 have hd2:(Lib.splitB ⟨#[c]⟩ 0 (Lib.countB ⟨s.toArray⟩ ⟨#[c]⟩) ⟨s.toArray⟩).map (·.data.toList)=Sp.spL c s:=hd.trans (Sp.split_one c s)
 have hlen:=Lib.splitB_all ⟨#[c]⟩ (Nat.le_refl 1) 0 _ ⟨s.toArray⟩ rfl
 generalize Lib.splitB ⟨#[c]⟩ 0 (Lib.countB ⟨s.toArray⟩ ⟨#[c]⟩) ⟨s.toArray⟩=L at h hd2 hlen
 rw [← hlen] at h
 have hl2:L.length=(Sp.spL c s).length:=by rw [← hd2,List.length_map]
 rw [hl2] at h
 refine h.mono fun x w' ⟨he,hw⟩=>⟨_,_,_,he,Nat.le_refl _,hw,?_,fun i hi=>?_⟩
 ·intro v hv
  simp only [List.mem_toArray,List.mem_map] at hv
  obtain ⟨b,_,rfl⟩:=hv
  rfl
 ·have hi':i<L.length:=by rw [hl2];exact hi
  refine ⟨.string L[i],by simp [hi'],fun x hx=>?_⟩
  have e:(Sp.spL c s).getD i []=L[i].data.toList:=by
   rw [← hd2,List.getD_eq_getElem?_getD,List.getElem?_map,List.getElem?_eq_getElem hi'];rfl
  simp only [encL,e,List.getElem?_cons_zero,Option.some.injEq] at hx
  subst hx
  exact .str _ _
theorem jfx (s:List UInt8) (c:UInt8) (hs:s.length≤1000000):Con Tryz.prog 35 [.str s,.str [c]] (.tup [.str (Lib.cut s [c]).1,.str (Lib.cut s [c]).2.1,.bool (Lib.cut s [c]).2.2]):=by
 refine qrb Tryz.func35 rfl (by kernel_rfl) [.str s,.str [c]] _ fun rd w vs hm ha=>?_
 obtain ⟨a,b,rfl,h1,h2⟩:=qny ha
 obtain rfl:=qhq h1
 obtain rfl:=qhq h2
 refine (AnyOne.cut Tryz.lays145 ⟨s.toArray⟩ c w (by simp [ByteArray.size];omega)).mono fun x w' ⟨he,n,hw⟩=>⟨_,he,?_,by rw [hw];exact jum (Below.refl _ _) n⟩
 refine .tup _ _ _ rfl fun j x v hx hv=>?_
 match j,hx,hv with
 | 0,hx,hv=>cases hx;cases hv;exact .str _ _
 | 1,hx,hv=>cases hx;cases hv;exact .str _ _
 | 2,hx,hv=>cases hx;cases hv;exact .bool _ _
theorem juo (s p:List UInt8):Con Tryz.prog 99 [.str s,.str p] (.str (Lib.trimPrefix s p)):=by
 refine qrb Tryz.func99 rfl (by kernel_rfl) [.str s,.str p] _ fun rd w vs hm ha=>?_
 obtain ⟨a,b,rfl,h1,h2⟩:=qny ha
 obtain rfl:=qhq h1
 obtain rfl:=qhq h2
 exact (Any.strings_TrimPrefix Tryz.lays101 ⟨s.toArray⟩ ⟨p.toArray⟩ w).mono fun x w' ⟨he,hw⟩=>⟨_,he,.str _ _,by rw [hw];exact Below.refl _ _⟩
end Go.Proofs.YtcfllgdfhfcicaaGreatDoor
end
