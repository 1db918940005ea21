/- Some texts of the library, one behind the other. -/
import Derived.Test.YtcfllgdfhfcicaaGreatDoorQ3
import Derived.Test.YtcfllgdfhfcicaaGreatDoorQ1
import Derived.Test.YtcfllgdfhfcicaaGreatDoorRows
import Derived.ProofKit
import Derived.Test.YtcfllgdfhfcicaaGreatDoorQ2
set_option linter.unusedSimpArgs false
set_option linter.unusedVariables false
section
namespace Go.St
open Go Go.Sx
def qnr (c:Int):Bool:=(decide (65≤c) && decide (c≤90)) || (decide (97≤c) && decide (c≤122))
def qns (c:Int):Bool:=qnr c || (decide (48≤c) && decide (c≤57)) || c == 95
def keyL:List (List UInt8):=[[99,104,97,110],[111,102],[108,111,115,115,121],[99,111,112,121,105,110,103],[118,97,114],[112,114,111,99],[115,97,102,101],[100,101,97,100,108,111,99,107],[115,101,110,100],[114,101,99,118],[105,100,108,101],[119,104,101,110],[99,104,111,111,115,101],[111,114],[105,102],[101,108,115,101],[119,104,105,108,101],[97,116,111,109,105,99],[115,107,105,112],[115,116,111,112],[108,101,110]]
def keyF (s:List UInt8):Bool:=keyL.any (· == s)
def nameF (s:List UInt8):Bool:=!(decide (s.length=0) || decide (12<s.length) || !qnr (qax s 0) || keyF s) && (List.range s.length).all fun i=>qns (qax s i)
def inK (k a b:Int):Bool:=decide (a≤k) && decide (k≤b)
def kidK (l:List Nd) (n:Nd) (i:Nat):Int:=(l.getD (n.kids.getD i 0).toNat nd0).kind
def wordsB (n:Nd) (c:Int):Bool:=n.words.all nameF && ((n.words.length:Int) == c)
def numsB (n:Nd) (c most:Int):Bool:=n.nums.all (fun x=>decide (0≤x) && decide (x≤most)) && ((n.nums.length:Int) == c)
def allB (l:List Nd) (n:Nd) (frm:Nat) (a b:Int):Bool:=(List.range n.kids.length).all fun i=>decide (i<frm) || inK (kidK l n i) a b
def exprsB (l:List Nd) (n:Nd) (first least most:Int):Bool:=
 ((List.range n.kids.length).all fun i=>!(decide ((i:Int)<first) && !inK (kidK l n i) 17 22 || decide (first≤(i:Int)) && kidK l n i != 16)) && (decide (first+least≤(n.kids.length:Int)) && decide ((n.kids.length:Int)≤first+most))
def varsN (l:List Nd) (n:Nd):Nat:=if idx (fun i=>kidK l n i != 2) (List.range n.kids.length)<0 then n.kids.length else (idx (fun i=>kidK l n i != 2) (List.range n.kids.length)).toNat
def nodeB (l:List Nd) (n:Nd):Bool:=
 if n.kind=0 then wordsB n 0 && numsB n 0 0 && allB l n 0 1 5
 else if n.kind=1 then wordsB n 1 && numsB n 4 999999 && decide (n.nums.getD 2 0≤1) && decide (n.nums.getD 3 0≤1) && (n.kids.length:Int) == 0
 else if n.kind=2 then wordsB n 1 && (n.nums.length:Int) == 2 && inK (n.nums.getD 0 0) 0 999999 && inK (n.nums.getD 1 0) (-999999) 999999 && (n.kids.length:Int) == 0
 else if n.kind=3 then wordsB n 1 && numsB n 1 999999 && allB l n (varsN l n) 6 15
 else if n.kind=4∨n.kind=20∨n.kind=21 then wordsB n 0 && numsB n 0 0 && exprsB l n 1 0 0
 else if n.kind=5∨n.kind=14∨n.kind=15 then wordsB n 0 && numsB n 0 0 && (n.kids.length:Int) == 0
 else if n.kind=6∨n.kind=7 then wordsB n 1 && numsB n 0 0 && exprsB l n 1 0 0
 else if n.kind=8 then wordsB n 2 && numsB n 1 1 && (n.kids.length:Int) == 0
 else if n.kind=9 then wordsB n 0 && numsB n 1 1 && exprsB l n 1 0 0
 else if n.kind=10 then wordsB n 0 && numsB n 1 1 && exprsB l n 0 1 800
 else if n.kind=11 then wordsB n 0 && numsB n 0 0 && exprsB l n 1 1 2
 else if n.kind=12 then wordsB n 0 && numsB n 0 0 && exprsB l n 1 1 1
 else if n.kind=13 then wordsB n 0 && numsB n 0 0 && exprsB l n 0 1 1
 else if n.kind=16 then wordsB n 0 && numsB n 0 0 && allB l n 0 6 15
 else if n.kind=17 then wordsB n 0 && numsB n 1 999999 && (n.kids.length:Int) == 0
 else if n.kind=18∨n.kind=19 then wordsB n 1 && numsB n 0 0 && (n.kids.length:Int) == 0
 else if n.kind=22 then wordsB n 0 && numsB n 1 8 && exprsB l n 2 0 0
 else false
theorem qhv (n i d:Nat) (h:i<n):(List.range n).getD i d=i:=by
 rw [List.getD_eq_getElem?_getD,List.getElem?_range h];rfl
theorem jbv (l:List Nd) (n:Nd) (v:Nat) (hv:v≤n.kids.length) (h:∀ j,j<v→kidK l n j=2) (he:v=n.kids.length∨kidK l n v≠2):varsN l n=v:=by
 unfold varsN
 by_cases hl:v<n.kids.length
 ·have h2:kidK l n v≠2:=by omega
  have:=qdt (fun i=>kidK l n i != 2) (List.range n.kids.length) 0 v (by simpa using hl) (by rw [qhv _ _ _ hl];simpa using h2) (fun j hj=>by rw [qhv _ _ _ (by omega)];simpa using h j hj)
  rw [this,za (by omega)];omega
 ·have hz:∀ j,j<(List.range n.kids.length).length→(kidK l n ((List.range n.kids.length).getD j 0) != 2)=false:=by
   intro j hj
   have hj':j<n.kids.length:=by simpa using hj
   rw [qhv _ _ _ hj'];simpa using h j (by omega)
  have:=qev (fun i=>kidK l n i != 2) (List.range n.kids.length) 0 hz
  rw [this,zb (by omega)];omega
theorem jpm {n:Nd} {c m:Int} (h:numsB n c m=true):(n.nums.length:Int)=c:=by
 unfold numsB at h
 rw [zf,xz] at h
 exact h.2
structure NdSz (n:Nd):Prop where
 lw:n.words.length≤9223372036854775807
 ln:n.nums.length≤9223372036854775807
 lk:n.kids.length≤9223372036854775807
 ls:∀ s∈n.words,s.length≤9223372036854775807
end Go.St
end
section
namespace Go.Proofs.YtcfllgdfhfcicaaGreatDoor
open Go Go.Sx Go.RowKit Go.St
set_option maxRecDepth 100000
section
variable {H:Type} {enc:TypeId × Value→H}
theorem jbw:maxLen=9223372036854775807:=by decide +kernel
theorem rdr_ints:Rdr enc Tryz.prog 28 (fun ys=>∃ l:List Int,(l.length≤maxLen∧∀ n∈l,(Lit.int .i64 n).wf=true)∧ys=[ints l]):=
 qua (en:=fun n=>[iv n]) Tryz.underlying28 (by kernel_rfl) (by decide) (fun _=>rfl) (qqg Tryz.underlying3)
theorem rdr_strs:Rdr enc Tryz.prog 63 (fun ys=>∃ l:List (List UInt8),(l.length≤maxLen∧∀ s∈l,s.length≤maxLen)∧ys=[strs l]):=
 qua (en:=fun s=>[.str s]) Tryz.underlying63 (by kernel_rfl) (by decide) (fun _=>rfl) (jln Tryz.underlying9)
def ndQ:Nat→AV→Prop
 | 0,y|4,y=>∃ n:Int,y=iv n
 | 1,y=>∃ l:List (List UInt8),(l.length≤maxLen∧∀ s∈l,s.length≤maxLen)∧y=strs l
 | 2,y|3,y=>∃ l:List Int,l.length≤maxLen∧y=ints l
 | _,_=>True
theorem jpn:Rdr enc Tryz.prog 96 (fun ys=>∃ n:Nd,NdSz n∧ys=n.cells):=by
 refine (jlo (q:=ndQ) Tryz.underlying96 (by kernel_rfl) (fun i f hf=>?_)).mono fun ys hy=>?_
 ·match i with
  | 0=>cases hf;exact ⟨⟨rfl,by kernel_rfl⟩,(qqg Tryz.underlying3).mono fun ys ⟨n,_,h⟩=>⟨_,⟨n,rfl⟩,h⟩⟩
  | 1=>cases hf;exact ⟨⟨rfl,by kernel_rfl⟩,rdr_strs.mono fun ys ⟨l,h1,h⟩=>⟨_,⟨l,h1,rfl⟩,h⟩⟩
  | 2=>cases hf;exact ⟨⟨rfl,by kernel_rfl⟩,rdr_ints.mono fun ys ⟨l,h1,h⟩=>⟨_,⟨l,h1.1,rfl⟩,h⟩⟩
  | 3=>cases hf;exact ⟨⟨rfl,by kernel_rfl⟩,rdr_ints.mono fun ys ⟨l,h1,h⟩=>⟨_,⟨l,h1.1,rfl⟩,h⟩⟩
  | 4=>cases hf;exact ⟨⟨rfl,by kernel_rfl⟩,(qqg Tryz.underlying3).mono fun ys ⟨n,_,h⟩=>⟨_,⟨n,rfl⟩,h⟩⟩
  | i+5=>simp at hf
 ·obtain ⟨h1,h2⟩:=hy
  match ys,h1 with
  | [a,b,c,d,e],_=>
   obtain ⟨k,rfl⟩:=h2 0 a rfl
   obtain ⟨w,hw,rfl⟩:=h2 1 b rfl
   obtain ⟨ns,hn,rfl⟩:=h2 2 c rfl
   obtain ⟨ks,hk,rfl⟩:=h2 3 d rfl
   obtain ⟨p,rfl⟩:=h2 4 e rfl
   rw [jbw] at hw hn hk
   exact ⟨⟨k,w,ns,ks,p⟩,⟨hw.1,hn,hk,hw.2⟩,rfl⟩
theorem jpo:Rdr enc Tryz.prog 22 (fun ys=>∃ l:List Nd,(l.length≤maxLen∧∀ n∈l,NdSz n)∧ys=[js l]):=
 qua (en:=Nd.cells) Tryz.underlying22 (by kernel_rfl) (by decide) (fun _=>rfl) jpn
end
end Go.Proofs.YtcfllgdfhfcicaaGreatDoor
end
section
namespace Go.Proofs.YtcfllgdfhfcicaaGreatDoor
namespace Lx
open Go.Sx
def signs:List UInt8:=[123,125,91,93,40,41,59,61,60,43,45,42,47,37,33]
def cls (c:Int):Int:=
 if (65≤c∧c≤90)∨(97≤c∧c≤122) then 2
 else if 48≤c∧c≤57 then 3
 else if c=95 then 4
 else if c=32∨c=9∨c=13∨c=10 then 1
 else if c=38∨c=124 then 6
 else if 0≤Lib.indexByte signs c.toNat.toUInt8 then 5
 else 0
def jpp (x:Int):List AV:=[.int .i64 x]
def ints (l:List Int):AV:=slcL jpp 0 1 l
def qly (cl:List Int) (b:UInt8):Bool:=cl.any fun c=>cls (b.toNat:Int) == c
def spanN (p:UInt8→Bool):List UInt8→Nat
 | []=>0
 | b::r=>if p b then 1+spanN p r else 0
theorem jbx (p:UInt8→Bool) (l:List UInt8):spanN p l≤l.length:=by
 induction l with
 | nil=>simp [spanN]
 | cons b r ih=>simp only [spanN];split <;> simp <;> omega
theorem drop_cons {l:List UInt8} {k:Nat} (h:k<l.length):∃ b,l.drop k=b::l.drop (k+1)∧qax l (k:Int)=(b.toNat:Int):=by
 refine ⟨l[k],zbb h,?_⟩
 simp [qax,List.getD,h]
def slash2 (l:List UInt8):Bool:=[47,47].isPrefixOf l
def blankB (b:UInt8):Bool:=qly [1] b
def wordB (b:UInt8):Bool:=qly [2,3,4] b
def digB (b:UInt8):Bool:=qly [3] b
def lineN (l:List UInt8):Nat:=spanN (fun b=>b != 10) l
def skipN (l:List UInt8):Nat:=
 match l with
 | []=>0
 | b::r=>
  if blankB b then 1+skipN r
  else if slash2 (b::r) then 1+lineN r+skipN (r.drop (lineN r))
  else 0
termination_by l.length
decreasing_by all_goals simp;try omega
theorem jpq:skipN []=0:=by rw [skipN]
theorem qvj (b:UInt8) (r:List UInt8):skipN (b::r)=if blankB b then 1+skipN r else if slash2 (b::r) then 1+lineN r+skipN (r.drop (lineN r)) else 0:=by rw [skipN]
def qkl (l:List UInt8):Nat:=
 if [61,61].isPrefixOf l || [38,38].isPrefixOf l || [124,124].isPrefixOf l then 2
 else match l with
  | []=>0
  | b::_=>if cls (b.toNat:Int)=5 then 1 else 0
def firstK (l:List UInt8):Int:=
 match l with
 | []=>2
 | b::_=>if cls (b.toNat:Int)=2 then 0 else if cls (b.toNat:Int)=3 then 1 else 2
def firstN (l:List UInt8):Nat:=
 match l with
 | []=>0
 | b::r=>if cls (b.toNat:Int)=2 then spanN wordB (b::r) else if cls (b.toNat:Int)=3 then (if 6<spanN digB (b::r) then 0 else spanN digB (b::r)) else qkl (b::r)
structure Tok where
 kind:Int
 s:List UInt8
 pos:Int
def tok0:Tok:=⟨0,[],0⟩
def encTok (t:Tok):List AV:=[.int .i64 t.kind,.str t.s,.int .i64 t.pos]
def toks (l:List Tok):AV:=slcL encTok tok0 3 l
def lexR (l:List UInt8) (p:Nat):Except Nat (List Tok):=
 match l with
 | []=>.ok [⟨3,[],p⟩]
 | b::r=>
  if blankB b then lexR r (p+1)
  else if slash2 (b::r) then lexR (r.drop (lineN r)) (p+1+lineN r)
  else if firstN (b::r)=0 then .error p
  else (lexR (r.drop (firstN (b::r) - 1)) (p+firstN (b::r))).map (⟨firstK (b::r),(b::r).take (firstN (b::r)),p⟩::·)
termination_by l.length
decreasing_by all_goals simp;try omega
theorem lexR_nil (p:Nat):lexR [] p=.ok [⟨3,[],p⟩]:=by rw [lexR]
theorem lexR_cons (b:UInt8) (r:List UInt8) (p:Nat):lexR (b::r) p=if blankB b then lexR r (p+1) else if slash2 (b::r) then lexR (r.drop (lineN r)) (p+1+lineN r) else if firstN (b::r)=0 then .error p
  else (lexR (r.drop (firstN (b::r) - 1)) (p+firstN (b::r))).map (⟨firstK (b::r),(b::r).take (firstN (b::r)),p⟩::·):=by rw [lexR]
theorem jby {l:List UInt8} (h:slash2 l=true):∃ r,l=47::47::r:=by
 match l,h with
 | [],h=>simp [slash2] at h
 | [a],h=>simp [slash2] at h
 | a::b::r,h=>
  simp [slash2] at h
  obtain ⟨rfl,rfl⟩:=h
  exact ⟨r,rfl⟩
theorem jbz:blankB 47=false:=by decide
theorem jyt {l:List UInt8} (h:slash2 l=true):skipN l=lineN l+skipN (l.drop (lineN l))∧2≤lineN l:=by
 obtain ⟨r,rfl⟩:=jby h
 have h1:lineN (47::47::r)=lineN (47::r)+1:=by simp [lineN,spanN];omega
 have h2:lineN (47::r)=lineN r+1:=by simp [lineN,spanN];omega
 refine ⟨?_,by omega⟩
 rw [qvj,jbz,za (by simp),zb h,h1,List.drop_succ_cons]
 omega
theorem skip_none {l:List UInt8} (h:slash2 l=false) (hb:l=[]∨∃ b r,l=b::r∧blankB b=false):skipN l=0:=by
 rcases hb with rfl|⟨b,r,rfl,hb⟩
 ·exact jpq
 ·rw [qvj,hb,h];simp
theorem jpr {l:List UInt8} (h:[61,61].isPrefixOf l=true∨[38,38].isPrefixOf l=true∨[124,124].isPrefixOf l=true):qkl l=2:=by
 unfold qkl
 rw [zb (by simp only [zad];rcases h with h|h|h <;> simp only [h,true_or,or_true])]
theorem jps {b:UInt8} {r:List UInt8} (h1:[61,61].isPrefixOf (b::r)=false) (h2:[38,38].isPrefixOf (b::r)=false) (h3:[124,124].isPrefixOf (b::r)=false) :
  qkl (b::r)=if cls (b.toNat:Int)=5 then 1 else 0:=by
 unfold qkl
 rw [za (by simp only [h1,h2,h3];simp)]
def prep (acc:List Tok):Except Nat (List Tok)→Except Nat (List Tok)
 | .ok ts=>.ok (acc++ts)
 | .error e=>.error e
theorem prep_nil (x:Except Nat (List Tok)):prep [] x=x:=by cases x <;> rfl
theorem prep_snoc (acc:List Tok) (t:Tok) (x:Except Nat (List Tok)):prep acc (x.map (t::·))=prep (acc++[t]) x:=by cases x <;> simp [prep,Except.map]
def lexAll (s:List UInt8):List Tok × (Int × Int):=
 if 4000<s.length then ([],(12,0))
 else match lexR s 0 with
  | .ok ts=>(ts,(0,0))
  | .error p=>([],(10,p))
def lexAV (s:List UInt8):AV:=.tup [toks (lexAll s).1,.agg [.int .i64 (lexAll s).2.1,.int .i64 (lexAll s).2.2]]
theorem jpt {b:UInt8} {r:List UInt8} (h:skipN (b::r)=0):blankB b=false∧slash2 (b::r)=false:=by
 rw [qvj] at h
 constructor
 ·cases hb:blankB b with
  | false=>rfl
  | true=>rw [hb] at h;simp at h
 ·cases hs:slash2 (b::r) with
  | false=>rfl
  | true=>
   rw [hs] at h
   split at h
   ·omega
   ·simp at h
theorem lexR_tok {b:UInt8} {r:List UInt8} (h:skipN (b::r)=0) (p:Nat):lexR (b::r) p=if firstN (b::r)=0 then .error p
  else (lexR ((b::r).drop (firstN (b::r))) (p+firstN (b::r))).map (⟨firstK (b::r),(b::r).take (firstN (b::r)),p⟩::·):=by
 obtain ⟨h1,h2⟩:=jpt h
 rw [lexR_cons,h1,h2]
 simp only [Bool.false_eq_true,if_false]
 split
 ·rfl
 ·rename_i hn
  have:(b::r).drop (firstN (b::r))=r.drop (firstN (b::r) - 1):=by
   generalize firstN (b::r)=n at *
   cases n with
   | zero=>exact absurd rfl hn
   | succ n=>rfl
  rw [this]
theorem jpu (b:UInt8) (r:List UInt8):qkl (b::r)≤(b::r).length:=by
 unfold qkl
 split
 ·rename_i h
  simp only [zad,List.isPrefixOf_iff_prefix] at h
  rcases h with (h|h)|h <;> exact h.length_le
 ·simp only [xm]
  split <;> omega
theorem firstN_le (b:UInt8) (r:List UInt8):firstN (b::r)≤(b::r).length:=by
 unfold firstN
 simp only
 split
 ·exact jbx _ _
 ·split
  ·split
   ·omega
   ·exact jbx _ _
  ·exact jpu b r
def hasB (l:List UInt8) (c:Int):Bool:=l.any fun b=>(b.toNat:Int) == c
def digC (c:Int):Bool:=decide (48≤c) && decide (c≤57)
def letC (c:Int):Bool:=(decide (65≤c) && decide (c≤90)) || (decide (97≤c) && decide (c≤122))
def wordC (c:Int):Bool:=letC c || digC c || c == 95
def twoL (l:List UInt8):List UInt8:=if 2≤l.length then l.take 2 else []
theorem hasB_step {l:List UInt8} {k:Nat} (h:k<l.length) (c:Int):hasB (l.take (k+1)) c=(hasB (l.take k) c || qax l (k:Int) == c):=by
 obtain ⟨b,h1,h2⟩:=drop_cons h
 rw [hasB,hasB,List.take_succ_eq_append_getElem h,List.any_append,h2]
 rw [zbb h] at h1
 injection h1 with h1 _
 simp [h1]
theorem hasB_take {l:List UInt8} {k:Nat} {c:Int} (h:hasB (l.take k) c=true):hasB l c=true:=by
 simp only [hasB,List.any_eq_true] at h ⊢
 obtain ⟨b,h1,h2⟩:=h
 exact ⟨b,List.mem_of_mem_take h1,h2⟩
theorem qlz {p:Nat→Prop} (h:∀ n,n<256→p n) (b:UInt8):p b.toNat:=h _ b.toNat_lt
theorem blank_has (b:UInt8):hasB [32,9,13,10] (b.toNat:Int)=blankB b:=by
 have:=qlz (p:=fun n=>hasB [32,9,13,10] (n:Int)=(cls (n:Int) == 1)) (by decide +kernel) b
 simpa [blankB,qly] using this
theorem letC_cls (b:UInt8):letC (b.toNat:Int)=decide (cls (b.toNat:Int)=2):=qlz (p:=fun n=>letC (n:Int)=decide (cls (n:Int)=2)) (by decide +kernel) b
theorem digC_cls (b:UInt8):digC (b.toNat:Int)=decide (cls (b.toNat:Int)=3):=qlz (p:=fun n=>digC (n:Int)=decide (cls (n:Int)=3)) (by decide +kernel) b
theorem has_signs (b:UInt8):hasB signs (b.toNat:Int)=decide (cls (b.toNat:Int)=5):=qlz (p:=fun n=>hasB signs (n:Int)=decide (cls (n:Int)=5)) (by decide +kernel) b
theorem wordC_B (b:UInt8):wordC (b.toNat:Int)=wordB b:=by
 have:=qlz (p:=fun n=>wordC (n:Int)=[2,3,4].any fun c=>cls (n:Int) == c) (by decide +kernel) b
 exact this
theorem digC_B (b:UInt8):digC (b.toNat:Int)=digB b:=by
 have:=qlz (p:=fun n=>digC (n:Int)=[3].any fun c=>cls (n:Int) == c) (by decide +kernel) b
 exact this
theorem two_pre (x y:UInt8) (l:List UInt8):(twoL l == [x,y])=[x,y].isPrefixOf l:=by
 match l with
 | []=>rfl
 | [a]=>simp [twoL,List.isPrefixOf]
 | a::b::r=>simp [twoL,Bool.beq_comm (a:=x),Bool.beq_comm (a:=y)];grind
theorem spanN_step {p:UInt8→Bool} {l:List UInt8} {k:Nat} (h:k<l.length) (hp:p l[k]=true):spanN p (l.drop k)=1+spanN p (l.drop (k+1)):=by
 rw [zbb h,spanN,zb hp]
theorem spanN_end {p:UInt8→Bool} {l:List UInt8} {k:Nat} (h:k<l.length) (hp:p l[k]=false):spanN p (l.drop k)=0:=by
 rw [zbb h,spanN,za (by simp [hp])]
theorem spanN_out {p:UInt8→Bool} {l:List UInt8} {k:Nat} (h:l.length≤k):spanN p (l.drop k)=0:=by
 rw [List.drop_eq_nil_of_le h];rfl
theorem byteAt_get {l:List UInt8} {k:Nat} (h:k<l.length):qax l (k:Int)=(l[k].toNat:Int):=by
 simp [qax,List.getD,h]
theorem first_two {b:UInt8} {r:List UInt8} (h:[61,61].isPrefixOf (b::r)=true∨[38,38].isPrefixOf (b::r)=true∨[124,124].isPrefixOf (b::r)=true):firstN (b::r)=2∧firstK (b::r)=2:=by
 have hb:b=61∨b=38∨b=124:=by
  rcases h with h|h|h <;> simp at h
  ·exact .inl h.1.symm
  ·exact .inr (.inl h.1.symm)
  ·exact .inr (.inr h.1.symm)
 have hc:cls (b.toNat:Int)≠2∧cls (b.toNat:Int)≠3:=by rcases hb with rfl|rfl|rfl <;> decide +kernel
 simp only [firstN,firstK,za hc.1,za hc.2,jpr h,and_self]
theorem first_let {b:UInt8} {r:List UInt8} (h:cls (b.toNat:Int)=2):firstN (b::r)=spanN wordB (b::r)∧firstK (b::r)=0:=by
 simp only [firstN,firstK,zb h,and_self]
theorem first_dig {b:UInt8} {r:List UInt8} (h:cls (b.toNat:Int)=3):firstN (b::r)=(if 6<spanN digB (b::r) then 0 else spanN digB (b::r))∧firstK (b::r)=1:=by
 have h2:¬ cls (b.toNat:Int)=2:=by omega
 simp only [firstN,firstK,za h2,zb h,and_self]
theorem first_sig {b:UInt8} {r:List UInt8} (h1:[61,61].isPrefixOf (b::r)=false) (h2:[38,38].isPrefixOf (b::r)=false) (h3:[124,124].isPrefixOf (b::r)=false)
  (hl:¬ cls (b.toNat:Int)=2) (hd:¬ cls (b.toNat:Int)=3):firstN (b::r)=(if cls (b.toNat:Int)=5 then 1 else 0)∧firstK (b::r)=2:=by
 simp only [firstN,firstK,za hl,za hd,jps h1 h2 h3,and_self]
theorem ne10 (b:UInt8):((b.toNat:Int) != 10)=(b != 10):=by
 rw [Bool.eq_iff_iff]
 simp only [bne_iff_ne,ne_eq]
 constructor
 ·intro h h2;exact h (by rw [h2];rfl)
 ·intro h h2;exact h (UInt8.toNat_inj.1 (by simpa using Int.ofNat.inj h2))
theorem lexR_slash {b:UInt8} {r:List UInt8} (h:slash2 (b::r)=true) (p:Nat):lexR (b::r) p=lexR ((b::r).drop (lineN (b::r))) (p+lineN (b::r))∧0<lineN (b::r):=by
 obtain ⟨r',hr'⟩:=jby h
 injection hr' with hb hr'
 subst hb
 have h1:lineN (47::r)=lineN r+1:=by simp [lineN,spanN];omega
 rw [lexR_cons,jbz,za (by simp),zb h,h1,List.drop_succ_cons]
 refine ⟨?_,by omega⟩
 congr 1
 omega
theorem span_pos {p:UInt8→Bool} {b:UInt8} {r:List UInt8} (h:p b=true):0<spanN p (b::r):=by
 rw [spanN,zb h];omega
theorem let_word {b:UInt8} (h:cls (b.toNat:Int)=2):wordB b=true:=by simp [wordB,qly,h]
theorem dig_dig {b:UInt8} (h:cls (b.toNat:Int)=3):digB b=true:=by simp [digB,qly,h]
end Lx
end Go.Proofs.YtcfllgdfhfcicaaGreatDoor
end
