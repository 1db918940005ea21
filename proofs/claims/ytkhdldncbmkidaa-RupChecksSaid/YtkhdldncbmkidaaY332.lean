/- Some texts of the library, one behind the other. -/
import Derived.Shelf.Small.Bits
import Derived.Shelf.Small.Wraps
import Derived.Shelf.Strconv.Itoa0
import Derived.Ground.Names2Prog
import Derived.Shelf.Slices.CompactI
import Derived.Shelf.Slices.SearchI
import Derived.Shelf.Slices.Cells
import Derived.Ground.SlsfProg
import Derived.Shelf.SlSortCmp.Insertion
import Derived.Shelf.SlSortCmp.SiftDown1
import Derived.Shelf.SlSortCmp.HeapSort1
import Derived.Shelf.SlSortCmp.Insertion1
import Derived.Shelf.SlSortCmp.Median1
import Derived.Shelf.SlSortCmp.Pivot1
import Derived.Shelf.SlSortCmp.ReverseRange1
import Derived.Shelf.SlSortCmp.PartialInsertion1
import Derived.Shelf.SlSortCmp.PartitionEqual1
import Derived.Shelf.SlSortCmp.Partition1
import Derived.Shelf.SlSortCmp.Pdq1
import Derived.Shelf.SlSortCmp.Whole1
import Derived.Shelf.SlSortCmp.NoneTotal
import Derived.Test.YtkhdldncbmkidaaChecked
import Derived.Test.YtkhdldncbmkidaaY32
import Derived.Test.YtkhdldncbmkidaaY33
set_option linter.unusedSimpArgs false
set_option linter.unusedVariables false
section
namespace Go.Proofs
open Go.Shelf
def Try.laysNm220_ren:Go.Shelf.Ren:=⟨fun|20=>49|n=>n,fun|22=>23|3=>3|4=>4|0=>0|n=>n,fun|n=>n⟩
theorem Try.laysNm220:Go.Proofs.Lays2.n20 Try.prog Try.laysNm220_ren:={
 mixed:=by kernel_rfl
 f20:=Try.func49.trans (congrArg some (by kernel_rfl))
 t0:=Try.underlying0
 a0:=Try.isAgg0
 z0:=Try.sizeOf0
 v0:=Try.zeroValue0
 t3:=Try.underlying3
 a3:=Try.isAgg3
 z3:=Try.sizeOf3
 v3:=Try.zeroValue3
 t4:=Try.underlying4
 a4:=Try.isAgg4
 z4:=Try.sizeOf4
 v4:=Try.zeroValue4
 t22:=Try.underlying23
 a22:=Try.isAgg23
 z22:=Try.sizeOf23
 v22:=Try.zeroValue23
 i3:=by kernel_rfl }
def Try.laysSlF6_f45_ren:Go.Shelf.Ren:=⟨fun|6=>45|15=>63|14=>62|28=>77|29=>78|20=>69|21=>70|22=>71|23=>72|24=>73|25=>74|26=>75|27=>76|46=>79|47=>80|48=>81|49=>82|50=>83|57=>84|n=>n,fun|22=>23|24=>3|25=>65|3=>3|39=>75|0=>0|53=>86|55=>88|4=>4|46=>79|45=>78|50=>83|5=>5|9=>9|66=>89|70=>93|76=>95|77=>96|n=>n,fun|n=>n⟩
theorem Try.laysSlF6_f45:Go.Proofs.SlLaysF.n6 Try.prog Try.laysSlF6_f45_ren:={
 mixed:=by kernel_rfl
 f6:=⟨Try.f45.name,by decide,Try.func45.trans (congrArg some (by kernel_rfl))⟩
 f14:=⟨Try.f62.name,by decide,Try.func62.trans (congrArg some (by kernel_rfl))⟩
 f15:=Try.func63.trans (congrArg some (by kernel_rfl))
 f20:=⟨Try.f69.name,by decide,Try.func69.trans (congrArg some (by kernel_rfl))⟩
 f21:=⟨Try.f70.name,by decide,Try.func70.trans (congrArg some (by kernel_rfl))⟩
 f22:=⟨Try.f71.name,by decide,Try.func71.trans (congrArg some (by kernel_rfl))⟩
 f23:=⟨Try.f72.name,by decide,Try.func72.trans (congrArg some (by kernel_rfl))⟩
 f24:=⟨Try.f73.name,by decide,Try.func73.trans (congrArg some (by kernel_rfl))⟩
 f25:=⟨Try.f74.name,by decide,Try.func74.trans (congrArg some (by kernel_rfl))⟩
 f26:=⟨Try.f75.name,by decide,Try.func75.trans (congrArg some (by kernel_rfl))⟩
 f27:=⟨Try.f76.name,by decide,Try.func76.trans (congrArg some (by kernel_rfl))⟩
 f28:=Try.func77.trans (congrArg some (by kernel_rfl))
 f29:=Try.func78.trans (congrArg some (by kernel_rfl))
 f46:=⟨Try.f79.name,by decide,Try.func79.trans (congrArg some (by kernel_rfl))⟩
 f47:=Try.func80.trans (congrArg some (by kernel_rfl))
 f48:=Try.func81.trans (congrArg some (by kernel_rfl))
 f49:=⟨Try.f82.name,by decide,Try.func82.trans (congrArg some (by kernel_rfl))⟩
 f50:=⟨Try.f83.name,by decide,Try.func83.trans (congrArg some (by kernel_rfl))⟩
 f57:=⟨Try.f84.name,by decide,Try.func84.trans (congrArg some (by kernel_rfl))⟩
 t0:=Try.underlying0
 a0:=Try.isAgg0
 z0:=Try.sizeOf0
 v0:=Try.zeroValue0
 t3:=Try.underlying3
 a3:=Try.isAgg3
 z3:=Try.sizeOf3
 v3:=Try.zeroValue3
 t4:=Try.underlying4
 a4:=Try.isAgg4
 z4:=Try.sizeOf4
 v4:=Try.zeroValue4
 t5:=Try.underlying5
 a5:=Try.isAgg5
 z5:=Try.sizeOf5
 v5:=Try.zeroValue5
 t9:=Try.underlying9
 a9:=Try.isAgg9
 z9:=Try.sizeOf9
 v9:=Try.zeroValue9
 t22:=Try.underlying23
 a22:=Try.isAgg23
 z22:=Try.sizeOf23
 v22:=Try.zeroValue23
 a24:=Try.isAgg3
 z24:=Try.sizeOf3
 t25:=Try.underlying65
 a25:=Try.isAgg65
 z25:=Try.sizeOf65
 v25:=Try.zeroValue65
 t39:=Try.underlying75
 a39:=Try.isAgg75
 z39:=Try.sizeOf75
 v39:=Try.zeroValue75
 t45:=Try.underlying78
 a45:=Try.isAgg78
 z45:=Try.sizeOf78
 v45:=Try.zeroValue78
 t46:=Try.underlying79
 a46:=Try.isAgg79
 z46:=Try.sizeOf79
 v46:=Try.zeroValue79
 t50:=Try.underlying83
 a50:=Try.isAgg83
 z50:=Try.sizeOf83
 v50:=Try.zeroValue83
 t53:=Try.underlying86
 a53:=Try.isAgg86
 z53:=Try.sizeOf86
 v53:=Try.zeroValue86
 t55:=Try.underlying88
 a55:=Try.isAgg88
 z55:=Try.sizeOf88
 v55:=Try.zeroValue88
 t66:=Try.underlying89
 a66:=Try.isAgg89
 z66:=Try.sizeOf89
 v66:=Try.zeroValue89
 t70:=Try.underlying93
 a70:=Try.isAgg93
 z70:=Try.sizeOf93
 v70:=Try.zeroValue93
 t76:=Try.underlying95
 a76:=Try.isAgg95
 z76:=Try.sizeOf95
 v76:=Try.zeroValue95
 t77:=Try.underlying96
 a77:=Try.isAgg96
 z77:=Try.sizeOf96
 v77:=Try.zeroValue96 }
def Try.laysSlF06_f45_ren:Go.Shelf.Ren:=⟨fun|6=>45|15=>63|14=>62|28=>77|29=>78|20=>69|21=>70|22=>71|23=>72|24=>73|25=>74|26=>75|27=>76|46=>79|47=>80|48=>81|49=>82|50=>83|57=>84|n=>n,fun|22=>23|24=>3|25=>65|3=>3|39=>75|0=>0|53=>86|55=>88|4=>4|46=>79|45=>78|50=>83|5=>5|9=>9|66=>89|70=>93|76=>95|77=>96|n=>n,fun|n=>n⟩
theorem Try.laysSlF06_f45:Go.Proofs.SlLaysF0.n6 Try.prog Try.laysSlF06_f45_ren:={
 mixed:=by kernel_rfl
 f6:=⟨Try.f45.name,by decide,Try.func45.trans (congrArg some (by kernel_rfl))⟩
 f14:=⟨Try.f62.name,by decide,Try.func62.trans (congrArg some (by kernel_rfl))⟩
 f15:=Try.func63.trans (congrArg some (by kernel_rfl))
 f20:=⟨Try.f69.name,by decide,Try.func69.trans (congrArg some (by kernel_rfl))⟩
 f21:=⟨Try.f70.name,by decide,Try.func70.trans (congrArg some (by kernel_rfl))⟩
 f22:=⟨Try.f71.name,by decide,Try.func71.trans (congrArg some (by kernel_rfl))⟩
 f23:=⟨Try.f72.name,by decide,Try.func72.trans (congrArg some (by kernel_rfl))⟩
 f24:=⟨Try.f73.name,by decide,Try.func73.trans (congrArg some (by kernel_rfl))⟩
 f25:=⟨Try.f74.name,by decide,Try.func74.trans (congrArg some (by kernel_rfl))⟩
 f26:=⟨Try.f75.name,by decide,Try.func75.trans (congrArg some (by kernel_rfl))⟩
 f27:=⟨Try.f76.name,by decide,Try.func76.trans (congrArg some (by kernel_rfl))⟩
 f28:=Try.func77.trans (congrArg some (by kernel_rfl))
 f29:=Try.func78.trans (congrArg some (by kernel_rfl))
 f46:=⟨Try.f79.name,by decide,Try.func79.trans (congrArg some (by kernel_rfl))⟩
 f47:=Try.func80.trans (congrArg some (by kernel_rfl))
 f48:=Try.func81.trans (congrArg some (by kernel_rfl))
 f49:=⟨Try.f82.name,by decide,Try.func82.trans (congrArg some (by kernel_rfl))⟩
 f50:=⟨Try.f83.name,by decide,Try.func83.trans (congrArg some (by kernel_rfl))⟩
 f57:=⟨Try.f84.name,by decide,Try.func84.trans (congrArg some (by kernel_rfl))⟩
 t0:=Try.underlying0
 a0:=Try.isAgg0
 z0:=Try.sizeOf0
 v0:=Try.zeroValue0
 t3:=Try.underlying3
 a3:=Try.isAgg3
 z3:=Try.sizeOf3
 v3:=Try.zeroValue3
 t4:=Try.underlying4
 a4:=Try.isAgg4
 z4:=Try.sizeOf4
 v4:=Try.zeroValue4
 t5:=Try.underlying5
 a5:=Try.isAgg5
 z5:=Try.sizeOf5
 v5:=Try.zeroValue5
 t9:=Try.underlying9
 a9:=Try.isAgg9
 z9:=Try.sizeOf9
 v9:=Try.zeroValue9
 t22:=Try.underlying23
 a22:=Try.isAgg23
 z22:=Try.sizeOf23
 v22:=Try.zeroValue23
 t25:=Try.underlying65
 a25:=Try.isAgg65
 z25:=Try.sizeOf65
 v25:=Try.zeroValue65
 t39:=Try.underlying75
 a39:=Try.isAgg75
 z39:=Try.sizeOf75
 v39:=Try.zeroValue75
 t45:=Try.underlying78
 a45:=Try.isAgg78
 z45:=Try.sizeOf78
 v45:=Try.zeroValue78
 t46:=Try.underlying79
 a46:=Try.isAgg79
 z46:=Try.sizeOf79
 v46:=Try.zeroValue79
 t50:=Try.underlying83
 a50:=Try.isAgg83
 z50:=Try.sizeOf83
 v50:=Try.zeroValue83
 t53:=Try.underlying86
 a53:=Try.isAgg86
 z53:=Try.sizeOf86
 v53:=Try.zeroValue86
 t55:=Try.underlying88
 a55:=Try.isAgg88
 z55:=Try.sizeOf88
 v55:=Try.zeroValue88
 t66:=Try.underlying89
 a66:=Try.isAgg89
 z66:=Try.sizeOf89
 v66:=Try.zeroValue89
 t70:=Try.underlying93
 a70:=Try.isAgg93
 z70:=Try.sizeOf93
 v70:=Try.zeroValue93
 t76:=Try.underlying95
 a76:=Try.isAgg95
 z76:=Try.sizeOf95
 v76:=Try.zeroValue95
 t77:=Try.underlying96
 a77:=Try.isAgg96
 z77:=Try.sizeOf96
 v77:=Try.zeroValue96 }
end Go.Proofs
end
section
namespace Go.Proofs.Ytkhdldncbmkidaa
open Go Go.Sx Go.RowKit Go.Sort Go.Cl
set_option maxRecDepth 100000
def absW (l:Int):Int:=if l<0 then wrap64 (-l) else l
def cmpW (a b:Int):Int:=if cmp2 (absW a) (absW b)≠0 then cmp2 (absW a) (absW b) else cmp2 b a
theorem jjs (a b:Int):cmpW a b<0↔absW a<absW b∨(absW a=absW b∧b<a):=by
 unfold cmpW
 by_cases h:absW a=absW b
 ·rw [ze (fun k=>k ((qlr _ _).2 h)),qlq]
  omega
 ·rw [za (fun k=>h ((qlr _ _).1 k)),qlq]
  omega
theorem qjs (a b:Int):(ltOf cmpW) a b=true↔absW a<absW b∨(absW a=absW b∧b<a):=by
 unfold ltOf
 rw [xp]
 exact jjs a b
theorem qhp (a b:Int):(ltOf cmpW) a b=false↔¬ (absW a<absW b∨(absW a=absW b∧b<a)):=by
 rw [← qjs];simp
theorem swoW:SWO (ltOf cmpW) where
 irrefl x:=(qhp x x).2 (by omega)
 trans x y z h k:=(qjs x z).2 (by have h:=(qjs x y).1 h;have k:=(qjs y z).1 k;omega)
 ntrans x y z h k:=(qhp x z).2 (by have h:=(qhp x y).1 h;have k:=(qhp y z).1 k;omega)
theorem totW (x y:Int) (h:(ltOf cmpW) x y=false) (k:(ltOf cmpW) y x=false):x=y:=by
 have h:=(qhp x y).1 h
 have k:=(qhp y x).1 k
 omega
theorem qyg {l:Int} (h:litB l=true):absW l=absI l:=by
 have h:=(jy l).1 h
 unfold absW absI
 split
 ·unfold wrap64;omega
 ·rfl
theorem jjt {c:List Int} (h:rightB c=true):(c.mergeSort fun x y=>!(ltOf cmpW) y x)=qax c:=by
 have hl:∀ x∈c,litB x=true:=List.all_eq_true.1 h
 have:=List.map_mergeSort (f:=id) (r:=fun x y=>!(ltOf cmpW) y x) (s:=fun x y=>!ltB y x) (l:=c) (fun a ha b hb=>by
  have e:(ltOf cmpW) b a=ltB b a:=by
   rw [Bool.eq_iff_iff,qjs,qiw,qyg (hl a ha),qyg (hl b hb)]
   rfl
  show (!(ltOf cmpW) b a)=!ltB b a
  rw [e])
 rw [List.map_id,List.map_id] at this
 exact this
theorem jju (x:Int) (w:World):Calls Try.prog 64 #[.int .i64 x] w fun e w'=>e=.returned (.bool false)∧w'=w:=by
 go_enter Try.func64,Try.ntmps64
 go_wp2
 go_ret
 exact ⟨rfl,rfl⟩
theorem jjv (l:Int) (w:World):Calls Try.prog 48 #[.int .i64 l] w fun e w'=>e=.returned (.int .i64 (absW l))∧w'=w:=by
 go_enter Try.func48,Try.ntmps48
 go_wp2
 ·go_ret;refine ⟨?_,rfl⟩
  rw [show absW l=wrap64 (-l) from za ‹_›];rfl
 ·go_ret;refine ⟨?_,rfl⟩
  rw [show absW l=l from ze (by omega)];rfl
theorem jjw (x y:Int) (w:World):Calls Try.prog 47 #[.int .i64 x,.int .i64 y] w fun e w'=>e=.returned (.int .i64 (cmp2 x y))∧w'=w:=by
 go_enter Try.func47,Try.ntmps47
 go_wp2_with (go_at_call 64;refine (jju _ _).mono ?_;rintro e w' ⟨rfl,rfl⟩)
 ·go_ret;refine ⟨?_,rfl⟩
  rw [show cmp2 x y=-1 from za ‹_›];rfl
 ·go_ret;refine ⟨?_,rfl⟩
  rw [show cmp2 x y=1 from (ze (by omega)).trans (za (by omega))];rfl
 ·go_ret;refine ⟨?_,rfl⟩
  rw [show cmp2 x y=0 from (ze (by omega)).trans (ze (by omega))];rfl
set_option maxHeartbeats 4000000 in
theorem jjx (x y:Int) (w:World):Calls Try.prog 46 #[.int .i64 x,.int .i64 y] w fun e w'=>e=.returned (.int .i64 (cmpW x y))∧w'=w:=by
 go_enter Try.func46,Try.ntmps46
 go_wp2_with (first|(go_at_call 48;refine (jjv _ _).mono ?_;rintro e w' ⟨rfl,rfl⟩)|(go_at_call 47;refine (jjw _ _ _).mono ?_;rintro e w' ⟨rfl,rfl⟩))
 ·go_ret;refine ⟨?_,rfl⟩
  rw [show cmpW x y=cmp2 (absW x) (absW y) from za (bne_iff_ne.1 (by assumption))];rfl
 ·go_ret;refine ⟨?_,rfl⟩
  rw [show cmpW x y=cmp2 y x from ze (fun h=>h (bne_eq_false_iff_eq.1 (by assumption)))];rfl
theorem qyh {rd:Rd} {mp:Mp} {ep k:Nat} {sv:Value} (h:mp.row 0 0=some (sv,ep,k)) (hs:isSl sv=true):Rel rd mp (.own 0 0 ep k) sv:=
 .own _ _ _ _ _ _ _ _ _ h (zj _) (fun _=>zj _) (fun _ _=>rfl) hs
theorem jjy (ep:Nat) (c:List Int) (h0:0<c.length) (hn:c.length≤1000000) (hr:rightB c=true) :
  Trip Try.prog 45 [.own 0 0 ep c.length,.fn 46 []] [.row [] 3 1 ep c.length (intF c)] (.tup []) [(0,.row [] 3 1 ep c.length (intF (qax c)))] 1:=by
 have hl:(qax c).length=c.length:=by simp [qax]
 refine qye Try.func45 rfl (by kernel_rfl) c (qax c) c.length hl (zj _) (.inr ⟨rfl,rfl⟩) [.fn 46 []] [.func (.func 46) #[] #[]] (fun rd mp vs h=>?_) (.tup []) (fun _=>.tuple #[]) h0 (fun rd mp sv' _ _=>.tup _ _ _ rfl fun j x v hx _=>by simp at hx) (fun w g lo cap hH hg hcap=>?_)
 ·obtain ⟨a,rfl,ha⟩:=qyd h
  cases ha with
  | fn _ _ _ vs hs _=>
   obtain rfl:vs=#[]:=by simpa using hs
   rfl
 ·have hs:=Any.slices_SortFunc_total Try.laysSlF6_f45 encI (fun x=>rfl) cmpW swoW 46 #[] g lo cap c.toArray w (fun args w=>by kernel_rfl) (fun m os dk hs x y=>by
   refine (jjx x y _).mono fun e w' ⟨he,hw⟩=>⟨he,0,#[],?_⟩
   rw [hw,grow_empty]
   rfl) hH hg (by simp;omega) totW
  have e1:c.toArray.size=c.length:=by simp
  rw [e1] at hs
  refine hs.mono fun e w' ⟨he,m,os,hw⟩=>⟨he,?_⟩
  rw [hw]
  have:=jjp w g lo m (c.toArray.toList.mergeSort fun x y=>!(ltOf cmpW) y x).toArray os
  rw [show c.toArray.toList=c from rfl,jjt hr] at this ⊢
  exact this
theorem jjz (ep:Nat) (c:List Int) (h0:0<c.length) (hn:c.length≤1000000) :
  Trip Try.prog 49 [.own 0 0 ep c.length] [.row [] 3 1 ep c.length (intF c)] (.own 0 0 (ep+1) (Lib.compact c).length) [(0,.row [] 3 1 (ep+1) (Lib.compact c).length (intF (Lib.compact c++List.replicate (c.length - (Lib.compact c).length) 0)))] 1:=by
 have hle:(Lib.compact c).length≤c.length:=by
  rw [qls,xq]
  refine zr (zbm ..) ?_
  simp
 refine qye Try.func49 rfl (by kernel_rfl) c (Lib.compact c++List.replicate (c.length - (Lib.compact c).length) 0) (Lib.compact c).length (by simp;omega) hle (.inl (zav _)) [] [] (fun rd mp vs h=>?_) (.own 0 0 (ep+1) (Lib.compact c).length) (fun v=>v) h0 (fun rd mp sv' h hs=>qyh h hs) (fun w g lo cap hH hg hcap=>?_)
 ·have h1:=h.1
  simpa using h1
 ·have hs:=Any.slices_Compact_int Try.laysNm220 g lo cap c w hH (by omega) hcap
  refine hs.mono fun e w' ⟨he,q,hw⟩=>⟨he,?_⟩
  rw [hw]
  exact jjq w g lo q _
theorem jka (rd:Rd) (mp:Mp) (vs:Array Value) (h:RelL rd mp [.fn 46 []] vs):vs.toList=[.func (.func 46) #[] #[]]:=by
 obtain ⟨a,rfl,ha⟩:=qyd h
 cases ha with
 | fn _ _ _ vs hs _=>
  obtain rfl:vs=#[]:=by simpa using hs
  rfl
theorem jkb (ep:Nat) (F:Nat→List AV) :
  Trip Try.prog 45 [.own 0 0 ep 0,.fn 46 []] [.row [] 3 1 ep 0 F] (.tup []) [(0,.row [] 3 1 ep 0 F)] 1:=
 qyf Try.func45 rfl (by kernel_rfl) [.fn 46 []] [.func (.func 46) #[] #[]] jka (.tup []) (fun _=>.tuple #[]) (fun rd mp sv' _ _=>.tup _ _ _ rfl fun j x v hx _=>by simp at hx)
  (fun w a cap=>AnyF.slices_SortFunc_none Try.laysSlF06_f45 a cap _ w)
theorem jkc (ep:Nat) (F:Nat→List AV) :
  Trip Try.prog 49 [.own 0 0 ep 0] [.row [] 3 1 ep 0 F] (.own 0 0 ep 0) [(0,.row [] 3 1 ep 0 F)] 1:=
 qyf Try.func49 rfl (by kernel_rfl) [] [] (fun rd mp vs h=>by have h1:=h.1;simpa using h1) (.own 0 0 ep 0) (fun v=>v) (fun rd mp sv' h hs=>qyh h hs)
  (fun w a cap=>Any.slices_Compact_int_empty Try.laysNm220 a cap w)
end Go.Proofs.Ytkhdldncbmkidaa
end
