/- Some texts of the library, one behind the other. -/
import Derived.Test.YtikahnkkfkoglaaGreatDoorY23
import Derived.Test.YtikahnkkfkoglaaGreatDoorY21
import Derived.Test.YtikahnkkfkoglaaGreatDoorRows
import Derived.ProofKit
import Derived.Test.YtikahnkkfkoglaaGreatDoorY22
import Derived.Shelf.Strconv.AppendUint10
import Derived.Shelf.Strconv.Itoa0
import Derived.Shelf.Strconv.Itoa1
import Derived.Shelf.LaysM
import Derived.Shelf.Strconv.Itoa2
import Derived.Test.YtikahnkkfkoglaaGreatDoorChecked
set_option linter.unusedSimpArgs false
set_option linter.unusedVariables false
section
namespace Go.St
open Go Go.Sx
def qos (c:Int):Bool:=(decide (65≤c) && decide (c≤90)) || (decide (97≤c) && decide (c≤122))
def qot (c:Int):Bool:=qos c || (decide (48≤c) && decide (c≤57)) || c == 95
def keyL:List (List UInt8):=[[99,104,97,110],[111,102],[108,111,115,115,121],[99,111,112,121,105,110,103],[118,97,114],[112,114,111,99],[115,97,102,101],[100,101,97,100,108,111,99,107],[115,101,110,100],[114,101,99,118],[105,100,108,101],[119,104,101,110],[99,104,111,111,115,101],[111,114],[105,102],[101,108,115,101],[119,104,105,108,101],[97,116,111,109,105,99],[115,107,105,112],[115,116,111,112],[108,101,110]]
def keyF (s:List UInt8):Bool:=keyL.any (· == s)
def nameF (s:List UInt8):Bool:=!(decide (s.length=0) || decide (12<s.length) || !qos (qbi s 0) || keyF s) && (List.range s.length).all fun i=>qot (qbi s i)
def inK (k a b:Int):Bool:=decide (a≤k) && decide (k≤b)
def kidK (l:List Nd) (n:Nd) (i:Nat):Int:=(l.getD (n.kids.getD i 0).toNat nd0).kind
def wordsB (n:Nd) (c:Int):Bool:=n.words.all nameF && ((n.words.length:Int) == c)
def numsB (n:Nd) (c most:Int):Bool:=n.nums.all (fun x=>decide (0≤x) && decide (x≤most)) && ((n.nums.length:Int) == c)
def allB (l:List Nd) (n:Nd) (frm:Nat) (a b:Int):Bool:=(List.range n.kids.length).all fun i=>decide (i<frm) || inK (kidK l n i) a b
def exprsB (l:List Nd) (n:Nd) (first least most:Int):Bool:=
 ((List.range n.kids.length).all fun i=>!(decide ((i:Int)<first) && !inK (kidK l n i) 17 22 || decide (first≤(i:Int)) && kidK l n i != 16)) && (decide (first+least≤(n.kids.length:Int)) && decide ((n.kids.length:Int)≤first+most))
def varsN (l:List Nd) (n:Nd):Nat:=if idx (fun i=>kidK l n i != 2) (List.range n.kids.length)<0 then n.kids.length else (idx (fun i=>kidK l n i != 2) (List.range n.kids.length)).toNat
def nodeB (l:List Nd) (n:Nd):Bool:=
 if n.kind=0 then wordsB n 0 && numsB n 0 0 && allB l n 0 1 5
 else if n.kind=1 then wordsB n 1 && numsB n 4 999999 && decide (n.nums.getD 2 0≤1) && decide (n.nums.getD 3 0≤1) && (n.kids.length:Int) == 0
 else if n.kind=2 then wordsB n 1 && (n.nums.length:Int) == 2 && inK (n.nums.getD 0 0) 0 999999 && inK (n.nums.getD 1 0) (-999999) 999999 && (n.kids.length:Int) == 0
 else if n.kind=3 then wordsB n 1 && numsB n 1 999999 && allB l n (varsN l n) 6 15
 else if n.kind=4∨n.kind=20∨n.kind=21 then wordsB n 0 && numsB n 0 0 && exprsB l n 1 0 0
 else if n.kind=5∨n.kind=14∨n.kind=15 then wordsB n 0 && numsB n 0 0 && (n.kids.length:Int) == 0
 else if n.kind=6∨n.kind=7 then wordsB n 1 && numsB n 0 0 && exprsB l n 1 0 0
 else if n.kind=8 then wordsB n 2 && numsB n 1 1 && (n.kids.length:Int) == 0
 else if n.kind=9 then wordsB n 0 && numsB n 1 1 && exprsB l n 1 0 0
 else if n.kind=10 then wordsB n 0 && numsB n 1 1 && exprsB l n 0 1 800
 else if n.kind=11 then wordsB n 0 && numsB n 0 0 && exprsB l n 1 1 2
 else if n.kind=12 then wordsB n 0 && numsB n 0 0 && exprsB l n 1 1 1
 else if n.kind=13 then wordsB n 0 && numsB n 0 0 && exprsB l n 0 1 1
 else if n.kind=16 then wordsB n 0 && numsB n 0 0 && allB l n 0 6 15
 else if n.kind=17 then wordsB n 0 && numsB n 1 999999 && (n.kids.length:Int) == 0
 else if n.kind=18∨n.kind=19 then wordsB n 1 && numsB n 0 0 && (n.kids.length:Int) == 0
 else if n.kind=22 then wordsB n 0 && numsB n 1 8 && exprsB l n 2 0 0
 else false
theorem qhw (n i d:Nat) (h:i<n):(List.range n).getD i d=i:=by
 rw [List.getD_eq_getElem?_getD,List.getElem?_range h];rfl
theorem jch (l:List Nd) (n:Nd) (v:Nat) (hv:v≤n.kids.length) (h:∀ j,j<v→kidK l n j=2) (he:v=n.kids.length∨kidK l n v≠2):varsN l n=v:=by
 unfold varsN
 by_cases hl:v<n.kids.length
 ·have h2:kidK l n v≠2:=by omega
  have:=qfb (fun i=>kidK l n i != 2) (List.range n.kids.length) 0 v (by simpa using hl) (by rw [qhw _ _ _ hl];simpa using h2) (fun j hj=>by rw [qhw _ _ _ (by omega)];simpa using h j hj)
  rw [this,za (by omega)];omega
 ·have hz:∀ j,j<(List.range n.kids.length).length→(kidK l n ((List.range n.kids.length).getD j 0) != 2)=false:=by
   intro j hj
   have hj':j<n.kids.length:=by simpa using hj
   rw [qhw _ _ _ hj'];simpa using h j (by omega)
  have:=qfc (fun i=>kidK l n i != 2) (List.range n.kids.length) 0 hz
  rw [this,zb (by omega)];omega
theorem jpa {n:Nd} {c m:Int} (h:numsB n c m=true):(n.nums.length:Int)=c:=by
 unfold numsB at h
 rw [zf,xu] at h
 exact h.2
structure NdSz (n:Nd):Prop where
 lw:n.words.length≤9223372036854775807
 ln:n.nums.length≤9223372036854775807
 lk:n.kids.length≤9223372036854775807
 ls:∀ s∈n.words,s.length≤9223372036854775807
end Go.St
end
section
namespace Go.Proofs.YtikahnkkfkoglaaGreatDoor
open Go Go.Sx Go.RowKit Go.St
set_option maxRecDepth 100000
section
variable {H:Type} {enc:TypeId × Value→H}
theorem jci:maxLen=9223372036854775807:=by decide +kernel
theorem rdr_ints:Rdr enc Tryz.prog 27 (fun ys=>∃ l:List Int,(l.length≤maxLen∧∀ n∈l,(Lit.int .i64 n).wf=true)∧ys=[ints l]):=
 quw (en:=fun n=>[iv n]) Tryz.underlying27 (by kernel_rfl) (by decide) (fun _=>rfl) (quv Tryz.underlying3)
theorem rdr_strs:Rdr enc Tryz.prog 78 (fun ys=>∃ l:List (List UInt8),(l.length≤maxLen∧∀ s∈l,s.length≤maxLen)∧ys=[strs l]):=
 quw (en:=fun s=>[.str s]) Tryz.underlying78 (by kernel_rfl) (by decide) (fun _=>rfl) (jku Tryz.underlying9)
def ndQ:Nat→AV→Prop
 | 0,y|4,y=>∃ n:Int,y=iv n
 | 1,y=>∃ l:List (List UInt8),(l.length≤maxLen∧∀ s∈l,s.length≤maxLen)∧y=strs l
 | 2,y|3,y=>∃ l:List Int,l.length≤maxLen∧y=ints l
 | _,_=>True
theorem jpb:Rdr enc Tryz.prog 99 (fun ys=>∃ n:Nd,NdSz n∧ys=n.cells):=by
 refine (jkv (q:=ndQ) Tryz.underlying99 (by kernel_rfl) (fun i f hf=>?_)).mono fun ys hy=>?_
 ·match i with
  | 0=>cases hf;exact ⟨⟨rfl,by kernel_rfl⟩,(quv Tryz.underlying3).mono fun ys ⟨n,_,h⟩=>⟨_,⟨n,rfl⟩,h⟩⟩
  | 1=>cases hf;exact ⟨⟨rfl,by kernel_rfl⟩,rdr_strs.mono fun ys ⟨l,h1,h⟩=>⟨_,⟨l,h1,rfl⟩,h⟩⟩
  | 2=>cases hf;exact ⟨⟨rfl,by kernel_rfl⟩,rdr_ints.mono fun ys ⟨l,h1,h⟩=>⟨_,⟨l,h1.1,rfl⟩,h⟩⟩
  | 3=>cases hf;exact ⟨⟨rfl,by kernel_rfl⟩,rdr_ints.mono fun ys ⟨l,h1,h⟩=>⟨_,⟨l,h1.1,rfl⟩,h⟩⟩
  | 4=>cases hf;exact ⟨⟨rfl,by kernel_rfl⟩,(quv Tryz.underlying3).mono fun ys ⟨n,_,h⟩=>⟨_,⟨n,rfl⟩,h⟩⟩
  | i+5=>simp at hf
 ·obtain ⟨h1,h2⟩:=hy
  match ys,h1 with
  | [a,b,c,d,e],_=>
   obtain ⟨k,rfl⟩:=h2 0 a rfl
   obtain ⟨w,hw,rfl⟩:=h2 1 b rfl
   obtain ⟨ns,hn,rfl⟩:=h2 2 c rfl
   obtain ⟨ks,hk,rfl⟩:=h2 3 d rfl
   obtain ⟨p,rfl⟩:=h2 4 e rfl
   rw [jci] at hw hn hk
   exact ⟨⟨k,w,ns,ks,p⟩,⟨hw.1,hn,hk,hw.2⟩,rfl⟩
theorem jpc:Rdr enc Tryz.prog 22 (fun ys=>∃ l:List Nd,(l.length≤maxLen∧∀ n∈l,NdSz n)∧ys=[jx l]):=
 quw (en:=Nd.cells) Tryz.underlying22 (by kernel_rfl) (by decide) (fun _=>rfl) jpb
end
end Go.Proofs.YtikahnkkfkoglaaGreatDoor
end
section
namespace Go.Sx
open Go Go.RowKit
theorem jpg {P : Program} {f : FuncId} {fn : Func} {body : Code} (hf : P.funcs[f]? = some fn) (hb : fn.body = some body) (hname : (fn.name == "runtime.NumGoroutine") = false)
  {e:TypeId} {ep n:Nat} {F:Nat→List AV} (aS:List AV) (bs:List Value) (ha:∀ rd mp vs,RelL rd mp aS vs→vs.toList=bs) {m:Nat} (hm0:0<m) (g:Nat→List AV) (news:List Value) (hnl:news.length=m) (hgl:∀ k,k<m→(g k).length=1)
  (hgr:∀ (k j:Nat) x,k<m→(g k)[j]?=some x→∃ u,news[k * 1+j]?=some u∧u.oneCell'=true∧Rel (fun _ _=>none) Mp.none x u)
  (h:∀ (w:World) (sv:Value) (xs:List Value),Owns w e 1 sv n xs→(∀ t∈tbs,∃ ty fz,w.heap[t.1]?=some (.cells t.2 ty fz))→
   Calls P f (#[sv]++bs.toArray) w fun x w'=>∃ v',x=.returned v'∧Owns w' e 1 v' (n+m) (xs++news)∧w.grownBy w' sv.ownBlock∧(v'.ownBlock=sv.ownBlock∨∃ g,v'.ownBlock=some g∧w.heap.size≤g)) :
  Trip P f (.own 0 0 ep n::aS) [.row [] e 1 ep n F] (.own 0 0 ep (n+m)) [(0,.row [] e 1 ep (n+m) (appF n F m g))] 1:=by
 intro c rd mp w vs hw hrd0 hstd hm hargs
 have hname' : fn.name ≠ "runtime.NumGoroutine" := by simpa using hname
 refine .inl ⟨by simp [callFunc,hf,hname',hb,mark],?_⟩
 have hmem:IsMem (idx 0 [SO.row [] e 1 ep n F]) 0 0 ⟨[],e,1,ep,n,F⟩:=.row (by simp [idx,look])
 obtain ⟨v,xs,h1,h2,h3,h4,h5⟩:=hm.mb 0 0 _ hmem
 dsimp only at h1 h2 h3 h4
 -- the arguments
 obtain ⟨sv,us,rfl⟩:∃ sv us,vs=#[sv]++us:=by
  have h0:vs.toList.length=aS.length+1:=by rw [Array.length_toList,hargs.1];rfl
  rcases hv:vs.toList with _|⟨sv,us⟩
  ·rw [hv] at h0;simp at h0
  ·exact ⟨sv,us.toArray,by apply Array.ext';simpa using hv⟩
 have hus:RelL rd mp aS us:=⟨by have:=hargs.1;simp at this;omega,fun j x u hx hu=>hargs.2 (j+1) x u (by simpa using hx) (by rw [Array.getElem?_append_right (by simp)];simpa using hu)⟩
 have hbs:=ha rd mp us hus
 have hsv:sv=v:=by
  have:=hargs.2 0 (.own 0 0 ep n) sv rfl (by rw [Array.getElem?_append_left (by simp)];rfl)
  cases this with
  | own _ _ _ _ _ _ vr er nr hr he hn hv hs=>rw [h1] at hr;cases hr;exact hv rfl rfl
 subst hsv
 rw [show us=bs.toArray by rw [← hbs]] 
 refine (h w sv xs h2 (fun t ht=>(hm.tabR t ht).2)).mono fun x w' ⟨v',he,hown',hgrow,hat⟩=>.inl ⟨v',he,rd,mp.setRow 0 0 v' ep (n+m),?_,Rd.le.refl _,?_⟩
 ·exact .own _ _ _ _ _ _ _ _ _ (by simp [Mp.setRow]) (zl _) (fun _=>zl _) (fun _ _=>rfl) hown'.sl
 ·have hcells:=qzs (rd:=rd) (mp1:=mp.sel []) (sz:=1) (n:=n) (m:=m) (f:=F) (g:=g) (xs:=xs) (news:=news) (by simpa using h2.1) h3 hgl (fun i j x hi hx=>h4 i j x hi hx) (fun i j x hi hx=>by
   obtain ⟨u,hu,h6,h7⟩:=hgr i j x hi hx
   exact ⟨u,hu,h6,h7.mono (fun _ _ _ h=>by cases h) (Mp.none_le _)⟩)
  have:=hm.turnRow (w':=w') (r:=0) (i:=0) (ep:=ep) (n:=n+m) (f:=appF n F m g) (ob:=none) (R:=⟨[],e,1,ep,n,F⟩) (by simp [ju,idx,look]) trivial h1 h5 (.inr ⟨rfl,.inl (by dsimp only;omega)⟩) hgrow hown' hat hcells.1 hcells.2
  refine ⟨this.1,?_⟩
  have h6:=this.2
  simpa [jy,idx,look,qj] using h6
end Go.Sx
end
section
namespace Go.Proofs
open Go.Shelf Go.RowKit Go.Sort Go.Lib Go.Sx
variable {P:Program} {ρ:Ren}
set_option maxHeartbeats 6400000 in
set_option maxRecDepth 100000 in
theorem AnySb.appendUint_small (L:LaysM.n288 P ρ) (n u:Nat) (hu:u<100) (sv:Value) (xs:List Value) (w:World) (hown:Owns w (ρ.t 5) 1 sv n xs) (hlim:n+20≤140737488355328) :
  Calls P (ρ.f 288) #[sv,.int .u64 u,.int .i64 10] w fun e w'=>∃ v',e=.returned v'∧Owns w' (ρ.t 5) 1 v' (n+(Lib.decDigits u).length) (xs++Lib.byteCells (Lib.decDigits u))∧w.grownBy w' sv.ownBlock∧(v'.ownBlock=sv.ownBlock∨∃ g,v'.ownBlock=some g∧w.heap.size≤g):=by
 have mixed:=L.mixed
 have t5:=L.t5;have a5:=L.a5;have z5:=L.z5;have v5:=L.v5
 have t37:=L.t37;have u37:=run_underlying L.t37;have a37:=L.a37;have z37:=L.z37;have v37:=L.v37
 have t53:=L.t53;have a53:=L.a53;have z53:=L.z53;have v53:=L.v53
 have t3:=L.t3;have a3:=L.a3;have z3:=L.z3;have v3:=L.v3
 have t4:=L.t4;have a4:=L.a4;have z4:=L.z4;have v4:=L.v4
 have t9:=L.t9;have a9:=L.a9;have z9:=L.z9;have v9:=L.v9
 have t171:=L.t171;have a171:=L.a171;have z171:=L.z171;have v171:=L.v171
 have t0:=L.t0;have a0:=L.a0;have z0:=L.z0;have v0:=L.v0
 have t173:=L.t173;have a173:=L.a173;have z173:=L.z173;have v173:=L.v173
 have e283:∀ args w,(callFunc (ρ.f 283) args).run P w=.ok (.enter (ρ.f 283) args) w:=enters_of L.f283 (by kernel_rfl) rfl
 obtain ⟨i0,hi,hz0,hz1,hz2⟩:=info_parts L.i5
 have hlen:(Lib.decDigits u).length≤20:=by
  rw [Lib.decDigits_length]
  by_cases h10:u<10
  ·rw [Lib.nDigits_small h10];omega
  ·rw [Lib.nDigits_big h10,Lib.nDigits_small (show u / 10<10 by omega)];omega
 have hsz:(⟨(Lib.decDigits u).toArray⟩:ByteArray).size=(Lib.decDigits u).length:=by simp [ByteArray.size]
 go_enter L.f288,Body.n288_ntmps ρ
 go_wp2_with (first
  | (go_at_fn (ρ.f 283);refine (Any.internal_strconv_small { L with } u hu _).mono ?_;rintro e w' ⟨rfl,rfl⟩)
  | (at_builtin;refine jpe _ rfl _ _ (ρ.t 37) (ρ.t 9) rfl (ρ.t 5) i0 L.t37 L.t9 hi hz0 hz1 hz2 _ _ _ rfl hown ⟨(Lib.decDigits u).toArray⟩ rfl (by rw [hsz];unfold maxLen;omega) (by rw [hsz];omega) ?_))
 intro v' w1 hown' hgrow hat
 go_wp2
 go_ret
 refine ⟨v',rfl,?_,hgrow,hat⟩
 first|exact hown'|(rw [hsz] at hown';exact hown')
set_option maxHeartbeats 12800000 in
set_option maxRecDepth 100000 in
theorem AnySb.appendUint_big (L:LaysM.n288 P ρ) (n u:Nat) (hu:100≤u) (hu64:u<18446744073709551616) (sv:Value) (xs:List Value) (w:World) (hown:Owns w (ρ.t 5) 1 sv n xs) (hlim:n+20≤140737488355328)
  {nm:String} (hnum:∀ w',Lib.TabIs P w nm .u64 Lib.pow10Tab→(∀ k,k<w.heap.size→w'.heap[k]?=w.heap[k]?)→Calls P (ρ.f 284) #[.int .u64 u] w' fun e w''=>e=.returned (.int .i64 (Lib.nDigits u))∧w''=w') (htab:Lib.TabIs P w nm .u64 Lib.pow10Tab) :
  Calls P (ρ.f 288) #[sv,.int .u64 u,.int .i64 10] w fun e w'=>∃ v',e=.returned v'∧Owns w' (ρ.t 5) 1 v' (n+(Lib.decDigits u).length) (xs++Lib.byteCells (Lib.decDigits u))∧w.grownBy w' sv.ownBlock∧(v'.ownBlock=sv.ownBlock∨∃ g,v'.ownBlock=some g∧w.heap.size≤g):=by
 have mixed:=L.mixed
 have t5:=L.t5;have a5:=L.a5;have z5:=L.z5;have v5:=L.v5
 have t37:=L.t37;have u37:=run_underlying L.t37;have a37:=L.a37;have z37:=L.z37;have v37:=L.v37
 have t53:=L.t53;have a53:=L.a53;have z53:=L.z53;have v53:=L.v53
 have t3:=L.t3;have a3:=L.a3;have z3:=L.z3;have v3:=L.v3
 have t4:=L.t4;have a4:=L.a4;have z4:=L.z4;have v4:=L.v4
 have t9:=L.t9;have a9:=L.a9;have z9:=L.z9;have v9:=L.v9
 have t171:=L.t171;have a171:=L.a171;have z171:=L.z171;have v171:=L.v171
 have t0:=L.t0;have a0:=L.a0;have z0:=L.z0;have v0:=L.v0
 have t173:=L.t173;have a173:=L.a173;have z173:=L.z173;have v173:=L.v173
 have e284:∀ args w,(callFunc (ρ.f 284) args).run P w=.ok (.enter (ρ.f 284) args) w:=enters_of L.f284 (by kernel_rfl) rfl
 have e285:∀ args w,(callFunc (ρ.f 285) args).run P w=.ok (.enter (ρ.f 285) args) w:=enters_of L.f285 (by kernel_rfl) rfl
 obtain ⟨i0,hi,hz0,hz1,hz2⟩:=info_parts L.i5
 have hu1:1≤u:=by omega
 have hnd20:Lib.nDigits u≤20:=by have:=Lib.numDigits_eq u hu1 hu64;split at this <;> omega
 have hal:P.arrayLen (ρ.t 171)=24:=by simp [Program.arrayLen,L.t171]
 have hsl:∀ W,(Instr.sliceAt (ρ.t 171) (.pointer (some ⟨w.heap.size,0,none⟩)) none (some (.int .i64 (Lib.nDigits u:Int))) none).run P W=.ok (.slice (some ⟨w.heap.size,0,none⟩) (Lib.nDigits u) 24) W:=fun W=>by
  rw [run_sliceAt_array_h W (ρ.t 171) ⟨w.heap.size,0,none⟩ (by simp [Program.arrayLen,Program.elem,L.t171]) .i64 (Lib.nDigits u:Int) (by omega) (by rw [hal];omega)]
  go_simp
 have hH0:=Lib.holds_zero0 w (ρ.t 171) (Lib.nDigits u) (by omega)
 have hfmt:=Any.internal_strconv_formatBase10 { L with } w.heap.size 0 24 u (Array.replicate (Lib.nDigits u) 0) (w.alloc (.cells Lib.zeros24 (ρ.t 171))) hH0 (by rw [Array.size_replicate];exact Lib.lt_pow_nDigits u) hu64 (by rw [Array.size_replicate];omega)
 rw [Array.size_replicate] at hfmt
 have HH0:=Lib.hid hH0
 have iu:(100:Int)≤(u:Int):=by omega
 clear hH0 hal
 go_enter L.f288,Body.n288_ntmps ρ
 go_wp2_with (first
  | (go_at_fn (ρ.f 284);refine (hnum _ htab (fun k hk=>heap_alloc_old w _ hk)).mono ?_;rintro e w' ⟨rfl,rfl⟩))
 go_at_fn (ρ.f 285)
 refine hfmt.mono ?_
 rintro e w' ⟨rfl,k,v',dk,rfl,hF⟩
 have hcells:∀ j u',(Lib.byteCells (Lib.decDigits u))[j]?=some u'→((putRow (fun (b:UInt8)=>Value.int .u8 (b.toNat:Int)) (w.alloc (.cells Lib.zeros24 (ρ.t 171))) w.heap.size 0 dk).drewN k).cell? ((⟨w.heap.size,0,none⟩:Addr).add j)=some u':=by
  intro j u' hj
  have hjl:j<(Lib.decDigits u).length:=by
   have h5:=(List.getElem?_eq_some_iff.1 hj).1
   rwa [Lib.byteCells_length] at h5
  have e5:(Lib.byteCells (Lib.decDigits u))[j]?=some (Value.int .u8 ((Lib.decDigits u)[j].toNat:Int)):=by simp [Lib.byteCells,hjl]
  rw [e5] at hj
  cases hj
  rw [Lib.row_is_numeral hF j hjl,Lib.add_plain,World.cell?_drewN]
  exact cell?_putRow (fun (b:UInt8)=>Value.int .u8 (b.toNat:Int)) _ w.heap.size 0 _ dk HH0.out (by rw [hF.size,Array.size_replicate]) j (by rw [hF.size];rw [Lib.decDigits_length] at hjl;exact hjl)
 obtain ⟨os,eo⟩:=Lib.fin_at w (.cells Lib.zeros24 (ρ.t 171)) dk k 0
 have hnx2:Below w.heap.size w ((putRow (fun (b:UInt8)=>Value.int .u8 (b.toNat:Int)) (w.alloc (.cells Lib.zeros24 (ρ.t 171))) w.heap.size 0 dk).drewN k):=by rw [eo];exact Lib.below_grow w.heap.size w (zl _) k os
 have hown2:Owns ((putRow (fun (b:UInt8)=>Value.int .u8 (b.toNat:Int)) (w.alloc (.cells Lib.zeros24 (ρ.t 171))) w.heap.size 0 dk).drewN k) (ρ.t 5) 1 sv n xs:=hown.keep (fun g hg=>hnx2.block g (hown.lt hg))
 generalize (putRow (fun (b:UInt8)=>Value.int .u8 (b.toNat:Int)) (w.alloc (.cells Lib.zeros24 (ρ.t 171))) w.heap.size 0 dk).drewN k=W2 at hcells hown2 hnx2 ⊢
 clear eo HH0 hfmt
 go_wp2_with (at_builtin;refine jpf _ rfl _ _ (ρ.t 37) rfl (ρ.t 5) i0 (.int .u8 0) 1 1 L.t37 hi hz0 hz1 hz2 rfl (by decide) _ _ _ rfl hown2 (.slice (some ⟨w.heap.size,0,none⟩) (Lib.nDigits u) 24) (Lib.nDigits u) (Lib.byteCells (Lib.decDigits u)) rfl ⟨?c0,_,_,rfl,fun _=>⟨_,rfl,hcells,?c2⟩⟩ ?c3 ?c4 ?_)
 case c0=>rw [Lib.byteCells_length,Lib.decDigits_length,Nat.mul_one]
 case c2=>intro u' hu';simp only [Lib.byteCells,List.mem_map] at hu';obtain ⟨b,_,rfl⟩:=hu';rfl
 case c3=>unfold maxLen;omega
 case c4=>omega
 intro v2 w3 hown' hgrow hat
 go_wp2
 go_ret
 refine ⟨v2,rfl,?_,⟨hgrow.os.trans hnx2.os,hgrow.tape.trans hnx2.tape,hgrow.output.trans hnx2.output,xa hnx2.size hgrow.size,fun k hk hne=>(hgrow.block k (zaj hk hnx2.size) hne).trans (hnx2.block k hk)⟩,hat.imp id fun ⟨g,h1,h2⟩=>⟨g,h1,xa hnx2.size h2⟩⟩
 rw [Lib.decDigits_length]
 exact hown'
end Go.Proofs
end
section
namespace Go.Proofs
open Go.Shelf
def Tryz.laysM284_ren:Go.Shelf.Ren:=⟨fun|284=>139|129=>146|317=>145|318=>147|n=>n,fun|53=>177|3=>3|212=>185|0=>0|4=>4|46=>188|5=>5|9=>9|n=>n,fun|17=>0|n=>n⟩
theorem Tryz.laysM284:Go.Proofs.LaysM.n284 Tryz.prog Tryz.laysM284_ren:={
 mixed:=by kernel_rfl
 f129:=Tryz.func146.trans (congrArg some (by kernel_rfl))
 f284:=Tryz.func139.trans (congrArg some (by kernel_rfl))
 f317:=Tryz.func145.trans (congrArg some (by kernel_rfl))
 f318:=Tryz.func147.trans (congrArg some (by kernel_rfl))
 t0:=Tryz.underlying0
 a0:=Tryz.isAgg0
 z0:=Tryz.sizeOf0
 v0:=Tryz.zeroValue0
 t3:=Tryz.underlying3
 a3:=Tryz.isAgg3
 z3:=Tryz.sizeOf3
 v3:=Tryz.zeroValue3
 t4:=Tryz.underlying4
 a4:=Tryz.isAgg4
 z4:=Tryz.sizeOf4
 v4:=Tryz.zeroValue4
 t5:=Tryz.underlying5
 a5:=Tryz.isAgg5
 z5:=Tryz.sizeOf5
 v5:=Tryz.zeroValue5
 t9:=Tryz.underlying9
 a9:=Tryz.isAgg9
 z9:=Tryz.sizeOf9
 v9:=Tryz.zeroValue9
 t46:=Tryz.underlying188
 a46:=Tryz.isAgg188
 z46:=Tryz.sizeOf188
 v46:=Tryz.zeroValue188
 t53:=Tryz.underlying177
 a53:=Tryz.isAgg177
 z53:=Tryz.sizeOf177
 v53:=Tryz.zeroValue177
 t212:=Tryz.underlying185
 a212:=Tryz.isAgg185
 z212:=Tryz.sizeOf185
 v212:=Tryz.zeroValue185
 g17:=by kernel_rfl
 i0:=by kernel_rfl
 i3:=by kernel_rfl
 i4:=by kernel_rfl
 i5:=by kernel_rfl
 i9:=by kernel_rfl
 i46:=by kernel_rfl
 i53:=by kernel_rfl
 i212:=by kernel_rfl
 m17:=by kernel_rfl }
def Tryz.laysM288_ren:Go.Shelf.Ren:=⟨fun|288=>134|283=>138|284=>139|285=>140|286=>141|129=>146|317=>145|318=>147|319=>148|320=>149|337=>151|338=>152|n=>n,fun|37=>54|53=>177|3=>3|4=>4|9=>9|171=>180|0=>0|173=>183|212=>185|51=>186|5=>5|20=>20|213=>187|46=>188|232=>191|233=>192|n=>n,fun|17=>0|18=>1|19=>2|n=>n⟩
theorem Tryz.laysM288:Go.Proofs.LaysM.n288 Tryz.prog Tryz.laysM288_ren:={
 mixed:=by kernel_rfl
 f129:=Tryz.func146.trans (congrArg some (by kernel_rfl))
 f283:=Tryz.func138.trans (congrArg some (by kernel_rfl))
 f284:=Tryz.func139.trans (congrArg some (by kernel_rfl))
 f285:=Tryz.func140.trans (congrArg some (by kernel_rfl))
 f286:=Tryz.func141.trans (congrArg some (by kernel_rfl))
 f288:=Tryz.func134.trans (congrArg some (by kernel_rfl))
 f317:=Tryz.func145.trans (congrArg some (by kernel_rfl))
 f318:=Tryz.func147.trans (congrArg some (by kernel_rfl))
 f319:=Tryz.func148.trans (congrArg some (by kernel_rfl))
 f320:=Tryz.func149.trans (congrArg some (by kernel_rfl))
 f337:=Tryz.func151.trans (congrArg some (by kernel_rfl))
 f338:=Tryz.func152.trans (congrArg some (by kernel_rfl))
 t0:=Tryz.underlying0
 a0:=Tryz.isAgg0
 z0:=Tryz.sizeOf0
 v0:=Tryz.zeroValue0
 t3:=Tryz.underlying3
 a3:=Tryz.isAgg3
 z3:=Tryz.sizeOf3
 v3:=Tryz.zeroValue3
 t4:=Tryz.underlying4
 a4:=Tryz.isAgg4
 z4:=Tryz.sizeOf4
 v4:=Tryz.zeroValue4
 t5:=Tryz.underlying5
 a5:=Tryz.isAgg5
 z5:=Tryz.sizeOf5
 v5:=Tryz.zeroValue5
 t9:=Tryz.underlying9
 a9:=Tryz.isAgg9
 z9:=Tryz.sizeOf9
 v9:=Tryz.zeroValue9
 t20:=Tryz.underlying20
 a20:=Tryz.isAgg20
 z20:=Tryz.sizeOf20
 v20:=Tryz.zeroValue20
 t37:=Tryz.underlying54
 a37:=Tryz.isAgg54
 z37:=Tryz.sizeOf54
 v37:=Tryz.zeroValue54
 t46:=Tryz.underlying188
 a46:=Tryz.isAgg188
 z46:=Tryz.sizeOf188
 v46:=Tryz.zeroValue188
 t51:=Tryz.underlying186
 a51:=Tryz.isAgg186
 z51:=Tryz.sizeOf186
 v51:=Tryz.zeroValue186
 t53:=Tryz.underlying177
 a53:=Tryz.isAgg177
 z53:=Tryz.sizeOf177
 v53:=Tryz.zeroValue177
 t171:=Tryz.underlying180
 a171:=Tryz.isAgg180
 z171:=Tryz.sizeOf180
 v171:=Tryz.zeroValue180
 t173:=Tryz.underlying183
 a173:=Tryz.isAgg183
 z173:=Tryz.sizeOf183
 v173:=Tryz.zeroValue183
 t212:=Tryz.underlying185
 a212:=Tryz.isAgg185
 z212:=Tryz.sizeOf185
 v212:=Tryz.zeroValue185
 t213:=Tryz.underlying187
 a213:=Tryz.isAgg187
 z213:=Tryz.sizeOf187
 t232:=Tryz.underlying191
 a232:=Tryz.isAgg191
 z232:=Tryz.sizeOf191
 v232:=Tryz.zeroValue191
 t233:=Tryz.underlying192
 a233:=Tryz.isAgg192
 z233:=Tryz.sizeOf192
 v233:=Tryz.zeroValue192
 g17:=by kernel_rfl
 g18:=by kernel_rfl
 g19:=by kernel_rfl
 i0:=by kernel_rfl
 i3:=by kernel_rfl
 i4:=by kernel_rfl
 i5:=by kernel_rfl
 i9:=by kernel_rfl
 i20:=by kernel_rfl
 i37:=by kernel_rfl
 i46:=by kernel_rfl
 i51:=by kernel_rfl
 i53:=by kernel_rfl
 i171:=by kernel_rfl
 i173:=by kernel_rfl
 i212:=by kernel_rfl
 i232:=by kernel_rfl
 i233:=by kernel_rfl
 m17:=by kernel_rfl
 m18:=by kernel_rfl
 m19:=by kernel_rfl }
end Go.Proofs
end
