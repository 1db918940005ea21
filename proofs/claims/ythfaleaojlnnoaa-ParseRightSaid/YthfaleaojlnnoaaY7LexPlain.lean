/- Plain functions on bytes for the lexer: classes, spans, tokens. Nothing of the program. -/
import Derived.Test.YthfaleaojlnnoaaY71
import Derived.Test.YthfaleaojlnnoaaY72
set_option linter.unusedSimpArgs false
set_option linter.unusedVariables false
namespace Go.Proofs.Ythfaleaojlnnoaa
namespace Lx
open Go.Sx
def signs:List UInt8:=[123,125,91,93,40,41,59,61,60,43,45,42,47,37,33]
def cls (c:Int):Int:=
 if (65≤c∧c≤90)∨(97≤c∧c≤122) then 2
 else if 48≤c∧c≤57 then 3
 else if c=95 then 4
 else if c=32∨c=9∨c=13∨c=10 then 1
 else if c=38∨c=124 then 6
 else if 0≤Lib.indexByte signs c.toNat.toUInt8 then 5
 else 0
def jjh (x:Int):List AV:=[.int .i64 x]
def ints (l:List Int):AV:=slcL jjh 0 1 l
def isCls (cl:List Int) (b:UInt8):Bool:=cl.any fun c=>cls (b.toNat:Int) == c
def spanN (p:UInt8→Bool):List UInt8→Nat
 | []=>0
 | b::r=>if p b then 1+spanN p r else 0
theorem spanN_le (p:UInt8→Bool) (l:List UInt8):spanN p l≤l.length:=by
 induction l with
 | nil=>simp [spanN]
 | cons b r ih=>simp only [spanN];split <;> simp <;> omega
theorem drop_cons {l:List UInt8} {k:Nat} (h:k<l.length):∃ b,l.drop k=b::l.drop (k+1)∧qcl l (k:Int)=(b.toNat:Int):=by
 refine ⟨l[k],List.drop_eq_getElem_cons h,?_⟩
 simp [qcl,List.getD,h]
theorem getD_take_any (l:List Int) (q:Int→Bool) (k:Nat) (h:k<l.length):(l.take (k+1)).any q=((l.take k).any q || q (l.getD k 0)):=by
 rw [List.take_succ_eq_append_getElem h,List.any_append]
 simp [List.getD,h]
def slash2 (l:List UInt8):Bool:=[47,47].isPrefixOf l
def blankB (b:UInt8):Bool:=isCls [1] b
def wordB (b:UInt8):Bool:=isCls [2,3,4] b
def digB (b:UInt8):Bool:=isCls [3] b
def lineN (l:List UInt8):Nat:=spanN (fun b=>b != 10) l
def skipN (l:List UInt8):Nat:=
 match l with
 | []=>0
 | b::r=>
  if blankB b then 1+skipN r
  else if slash2 (b::r) then 1+lineN r+skipN (r.drop (lineN r))
  else 0
termination_by l.length
decreasing_by all_goals simp;try omega
theorem skipN_nil:skipN []=0:=by rw [skipN]
theorem qgp (b:UInt8) (r:List UInt8):skipN (b::r)=if blankB b then 1+skipN r else if slash2 (b::r) then 1+lineN r+skipN (r.drop (lineN r)) else 0:=by rw [skipN]
theorem skipN_le (l:List UInt8):skipN l≤l.length:=by
 induction h:l.length using Nat.strongRecOn generalizing l with
 | _ n ih=>
  cases l with
  | nil=>simp [skipN_nil]
  | cons b r=>
   rw [qgp]
   simp at h
   split
   ·have:=ih r.length (by omega) r rfl;omega
   ·split
    ·have h1:=ih (r.drop (lineN r)).length (by simp;omega) _ rfl
     have h2:=spanN_le (fun b=>b != 10) r
     simp only [zr,lineN] at h1 h2 ⊢
     omega
    ·omega
def signN (l:List UInt8):Nat:=
 if [61,61].isPrefixOf l || [38,38].isPrefixOf l || [124,124].isPrefixOf l then 2
 else match l with
  | []=>0
  | b::_=>if cls (b.toNat:Int)=5 then 1 else 0
def firstK (l:List UInt8):Int:=
 match l with
 | []=>2
 | b::_=>if cls (b.toNat:Int)=2 then 0 else if cls (b.toNat:Int)=3 then 1 else 2
def firstN (l:List UInt8):Nat:=
 match l with
 | []=>0
 | b::r=>if cls (b.toNat:Int)=2 then spanN wordB (b::r) else if cls (b.toNat:Int)=3 then (if 6<spanN digB (b::r) then 0 else spanN digB (b::r)) else signN (b::r)
structure Tok where
 kind:Int
 s:List UInt8
 pos:Int
def tok0:Tok:=⟨0,[],0⟩
def encTok (t:Tok):List AV:=[.int .i64 t.kind,.str t.s,.int .i64 t.pos]
def toks (l:List Tok):AV:=slcL encTok tok0 3 l
def lexR (l:List UInt8) (p:Nat):Except Nat (List Tok):=
 match l with
 | []=>.ok [⟨3,[],p⟩]
 | b::r=>
  if blankB b then lexR r (p+1)
  else if slash2 (b::r) then lexR (r.drop (lineN r)) (p+1+lineN r)
  else if firstN (b::r)=0 then .error p
  else (lexR (r.drop (firstN (b::r) - 1)) (p+firstN (b::r))).map (⟨firstK (b::r),(b::r).take (firstN (b::r)),p⟩::·)
termination_by l.length
decreasing_by all_goals simp;try omega
theorem lexR_nil (p:Nat):lexR [] p=.ok [⟨3,[],p⟩]:=by rw [lexR]
theorem lexR_cons (b:UInt8) (r:List UInt8) (p:Nat):lexR (b::r) p=if blankB b then lexR r (p+1) else if slash2 (b::r) then lexR (r.drop (lineN r)) (p+1+lineN r) else if firstN (b::r)=0 then .error p
  else (lexR (r.drop (firstN (b::r) - 1)) (p+firstN (b::r))).map (⟨firstK (b::r),(b::r).take (firstN (b::r)),p⟩::·):=by rw [lexR]
theorem lexR_skip (l:List UInt8) (p:Nat):lexR (l.drop (skipN l)) (p+skipN l)=lexR l p:=by
 induction h:l.length using Nat.strongRecOn generalizing l p with
 | _ n ih=>
  cases l with
  | nil=>simp [skipN_nil]
  | cons b r=>
   rw [qgp]
   simp at h
   split
   ·rename_i hb
    rw [lexR_cons,zb hb,Nat.add_comm 1,zai,← ih r.length (by omega) r (p+1) rfl]
    congr 1;omega
   ·rename_i hb
    split
    ·rename_i hs
     rw [lexR_cons,za hb,zb hs,show 1+lineN r+skipN (r.drop (lineN r))=(lineN r+skipN (r.drop (lineN r)))+1 by omega,zai,← zar,
      ← ih (r.drop (lineN r)).length (by simp;omega) _ (p+1+lineN r) rfl]
     congr 1;omega
    ·simp
theorem skip_done (l:List UInt8):skipN (l.drop (skipN l))=0:=by
 induction h:l.length using Nat.strongRecOn generalizing l with
 | _ n ih=>
  cases l with
  | nil=>simp [skipN_nil]
  | cons b r=>
   simp at h
   rw [qgp]
   split
   ·rw [Nat.add_comm 1,zai];exact ih r.length (by omega) r rfl
   ·rename_i hb
    split
    ·rw [show 1+lineN r+skipN (r.drop (lineN r))=(lineN r+skipN (r.drop (lineN r)))+1 by omega,zai,← zar]
     exact ih _ (by simp;omega) _ rfl
    ·rename_i hs
     rw [List.drop_zero,qgp,za hb,za hs]
theorem skip_blank (l:List UInt8):skipN l=spanN blankB l+skipN (l.drop (spanN blankB l)):=by
 induction l with
 | nil=>simp [spanN]
 | cons b r ih=>
  rw [qgp,spanN]
  split
  ·rw [Nat.add_comm 1 (spanN blankB r),zai];omega
  ·rename_i hb
   simp only [List.drop_zero,zn]
   rw [qgp,za hb]
theorem span_stop (p:UInt8→Bool) (l:List UInt8):l.drop (spanN p l)=[]∨∃ b r,l.drop (spanN p l)=b::r∧p b=false:=by
 induction l with
 | nil=>simp [spanN]
 | cons b r ih=>
  rw [spanN]
  split
  ·rw [Nat.add_comm 1,zai];exact ih
  ·rename_i hb;exact .inr ⟨b,r,rfl,by simpa using hb⟩
theorem jji (b:UInt8) (r:List UInt8):lineN (b::r)=if b != 10 then 1+lineN r else 0:=rfl
theorem index_line (l:List UInt8):Lib.indexByte l 10=if lineN l<l.length then (lineN l:Int) else -1:=by
 induction l with
 | nil=>simp [Lib.indexByte]
 | cons b r ih=>
  rw [Lib.indexByte,jji,ih]
  by_cases hb:b=10
  ·subst hb;simp
  ·have h1:(b == 10)=false:=by simp [hb]
   have h2:(b != 10)=true:=by simp [hb]
   simp only [h1,h2,if_true,zq]
   by_cases h:lineN r<r.length
   ·have h':1+lineN r<r.length+1:=by omega
    simp [h,h'];omega
   ·have h':¬ 1+lineN r<r.length+1:=by omega
    simp [h,h']
theorem jjj {l:List UInt8} (h:slash2 l=true):∃ r,l=47::47::r:=by
 match l,h with
 | [],h=>simp [slash2] at h
 | [a],h=>simp [slash2] at h
 | a::b::r,h=>
  simp [slash2] at h
  obtain ⟨rfl,rfl⟩:=h
  exact ⟨r,rfl⟩
theorem jjk:blankB 47=false:=by decide
theorem skip_slash {l:List UInt8} (h:slash2 l=true):skipN l=lineN l+skipN (l.drop (lineN l))∧2≤lineN l:=by
 obtain ⟨r,rfl⟩:=jjj h
 have h1:lineN (47::47::r)=lineN (47::r)+1:=by simp [lineN,spanN];omega
 have h2:lineN (47::r)=lineN r+1:=by simp [lineN,spanN];omega
 refine ⟨?_,by omega⟩
 rw [qgp,jjk,za (by simp),zb h,h1,zai]
 omega
theorem skip_none {l:List UInt8} (h:slash2 l=false) (hb:l=[]∨∃ b r,l=b::r∧blankB b=false):skipN l=0:=by
 rcases hb with rfl|⟨b,r,rfl,hb⟩
 ·exact skipN_nil
 ·rw [qgp,hb,h];simp
theorem sign_two {l:List UInt8} (h:[61,61].isPrefixOf l=true∨[38,38].isPrefixOf l=true∨[124,124].isPrefixOf l=true):signN l=2:=by
 unfold signN
 rw [zb (by simp only [xh];rcases h with h|h|h <;> simp only [h,true_or,or_true])]
theorem sign_one {b:UInt8} {r:List UInt8} (h1:[61,61].isPrefixOf (b::r)=false) (h2:[38,38].isPrefixOf (b::r)=false) (h3:[124,124].isPrefixOf (b::r)=false) :
  signN (b::r)=if cls (b.toNat:Int)=5 then 1 else 0:=by
 unfold signN
 rw [za (by simp only [h1,h2,h3];simp)]
def prep (acc:List Tok):Except Nat (List Tok)→Except Nat (List Tok)
 | .ok ts=>.ok (acc++ts)
 | .error e=>.error e
theorem prep_nil (x:Except Nat (List Tok)):prep [] x=x:=by cases x <;> rfl
theorem prep_snoc (acc:List Tok) (t:Tok) (x:Except Nat (List Tok)):prep acc (x.map (t::·))=prep (acc++[t]) x:=by cases x <;> simp [prep,Except.map]
def lexAll (s:List UInt8):List Tok × (Int × Int):=
 if 4000<s.length then ([],(12,0))
 else match lexR s 0 with
  | .ok ts=>(ts,(0,0))
  | .error p=>([],(10,p))
def lexAV (s:List UInt8):AV:=.tup [toks (lexAll s).1,.agg [.int .i64 (lexAll s).2.1,.int .i64 (lexAll s).2.2]]
theorem jjl {b:UInt8} {r:List UInt8} (h:skipN (b::r)=0):blankB b=false∧slash2 (b::r)=false:=by
 rw [qgp] at h
 constructor
 ·cases hb:blankB b with
  | false=>rfl
  | true=>rw [hb] at h;simp at h
 ·cases hs:slash2 (b::r) with
  | false=>rfl
  | true=>
   rw [hs] at h
   split at h
   ·omega
   ·simp at h
theorem lexR_tok {b:UInt8} {r:List UInt8} (h:skipN (b::r)=0) (p:Nat):lexR (b::r) p=if firstN (b::r)=0 then .error p
  else (lexR ((b::r).drop (firstN (b::r))) (p+firstN (b::r))).map (⟨firstK (b::r),(b::r).take (firstN (b::r)),p⟩::·):=by
 obtain ⟨h1,h2⟩:=jjl h
 rw [lexR_cons,h1,h2]
 simp only [Bool.false_eq_true,if_false]
 split
 ·rfl
 ·rename_i hn
  have:(b::r).drop (firstN (b::r))=r.drop (firstN (b::r) - 1):=by
   generalize firstN (b::r)=n at *
   cases n with
   | zero=>exact absurd rfl hn
   | succ n=>rfl
  rw [this]
theorem jjm (b:UInt8) (r:List UInt8):signN (b::r)≤(b::r).length:=by
 unfold signN
 split
 ·rename_i h
  simp only [xh,List.isPrefixOf_iff_prefix] at h
  rcases h with (h|h)|h <;> exact h.length_le
 ·simp only [zq]
  split <;> omega
theorem firstN_le (b:UInt8) (r:List UInt8):firstN (b::r)≤(b::r).length:=by
 unfold firstN
 simp only
 split
 ·exact spanN_le _ _
 ·split
  ·split
   ·omega
   ·exact spanN_le _ _
  ·exact jjm b r
theorem firstK_range (l:List UInt8):0≤firstK l∧firstK l≤2:=by
 unfold firstK
 split
 ·omega
 ·split
  ·omega
  ·split <;> omega
theorem byteAt_get {l:List UInt8} {k:Nat} (h:k<l.length):qcl l (k:Int)=(l[k].toNat:Int):=by
 simp [qcl,List.getD,h]
def keys:List (List UInt8):=[[99,104,97,110],[111,102],[108,111,115,115,121],[99,111,112,121,105,110,103],[118,97,114],[112,114,111,99],[115,97,102,101],[100,101,97,100,108,111,99,107],[115,101,110,100],[114,101,99,118],[105,100,108,101],[119,104,101,110],[99,104,111,111,115,101],[111,114],[105,102],[101,108,115,101],[119,104,105,108,101],[97,116,111,109,105,99],[115,107,105,112],[115,116,111,112],[108,101,110]]
def keyB (s:List UInt8):Bool:=keys.any fun k=>s == k
def nameB (s:List UInt8):Bool:=
 match s with
 | []=>false
 | b::r=>decide ((b::r).length≤12) && decide (cls (b.toNat:Int)=2) && decide (spanN wordB (b::r)=(b::r).length) && !keyB (b::r)
end Lx
end Go.Proofs.Ythfaleaojlnnoaa
