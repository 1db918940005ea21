/- Some texts of the library, one behind the other. -/
import Derived.Test.YtikahnkkfkoglaaGreatDoorY21
import Derived.Test.YtikahnkkfkoglaaGreatDoorY24
import Derived.Test.YtikahnkkfkoglaaGreatDoorY212
import Derived.Test.YtikahnkkfkoglaaGreatDoorY22
set_option linter.unusedSimpArgs false
set_option linter.unusedVariables false
section
namespace Go.Proofs.YtikahnkkfkoglaaGreatDoor
namespace Lx
open Go.Sx
def signs:List UInt8:=[123,125,91,93,40,41,59,61,60,43,45,42,47,37,33]
def cls (c:Int):Int:=
 if (65≤c∧c≤90)∨(97≤c∧c≤122) then 2
 else if 48≤c∧c≤57 then 3
 else if c=95 then 4
 else if c=32∨c=9∨c=13∨c=10 then 1
 else if c=38∨c=124 then 6
 else if 0≤Lib.indexByte signs c.toNat.toUInt8 then 5
 else 0
def jsy (x:Int):List AV:=[.int .i64 x]
def ints (l:List Int):AV:=slcL jsy 0 1 l
def qmu (cl:List Int) (b:UInt8):Bool:=cl.any fun c=>cls (b.toNat:Int) == c
def spanN (p:UInt8→Bool):List UInt8→Nat
 | []=>0
 | b::r=>if p b then 1+spanN p r else 0
theorem jfj (p:UInt8→Bool) (l:List UInt8):spanN p l≤l.length:=by
 induction l with
 | nil=>simp [spanN]
 | cons b r ih=>simp only [spanN];split <;> simp <;> omega
theorem drop_cons {l:List UInt8} {k:Nat} (h:k<l.length):∃ b,l.drop k=b::l.drop (k+1)∧qbi l (k:Int)=(b.toNat:Int):=by
 refine ⟨l[k],zaz h,?_⟩
 simp [qbi,List.getD,h]
def slash2 (l:List UInt8):Bool:=[47,47].isPrefixOf l
def blankB (b:UInt8):Bool:=qmu [1] b
def wordB (b:UInt8):Bool:=qmu [2,3,4] b
def digB (b:UInt8):Bool:=qmu [3] b
def lineN (l:List UInt8):Nat:=spanN (fun b=>b != 10) l
def skipN (l:List UInt8):Nat:=
 match l with
 | []=>0
 | b::r=>
  if blankB b then 1+skipN r
  else if slash2 (b::r) then 1+lineN r+skipN (r.drop (lineN r))
  else 0
termination_by l.length
decreasing_by all_goals simp;try omega
theorem jsz:skipN []=0:=by rw [skipN]
theorem qxm (b:UInt8) (r:List UInt8):skipN (b::r)=if blankB b then 1+skipN r else if slash2 (b::r) then 1+lineN r+skipN (r.drop (lineN r)) else 0:=by rw [skipN]
def qlb (l:List UInt8):Nat:=
 if [61,61].isPrefixOf l || [38,38].isPrefixOf l || [124,124].isPrefixOf l then 2
 else match l with
  | []=>0
  | b::_=>if cls (b.toNat:Int)=5 then 1 else 0
def firstK (l:List UInt8):Int:=
 match l with
 | []=>2
 | b::_=>if cls (b.toNat:Int)=2 then 0 else if cls (b.toNat:Int)=3 then 1 else 2
def firstN (l:List UInt8):Nat:=
 match l with
 | []=>0
 | b::r=>if cls (b.toNat:Int)=2 then spanN wordB (b::r) else if cls (b.toNat:Int)=3 then (if 6<spanN digB (b::r) then 0 else spanN digB (b::r)) else qlb (b::r)
structure Tok where
 kind:Int
 s:List UInt8
 pos:Int
def tok0:Tok:=⟨0,[],0⟩
def encTok (t:Tok):List AV:=[.int .i64 t.kind,.str t.s,.int .i64 t.pos]
def toks (l:List Tok):AV:=slcL encTok tok0 3 l
def lexR (l:List UInt8) (p:Nat):Except Nat (List Tok):=
 match l with
 | []=>.ok [⟨3,[],p⟩]
 | b::r=>
  if blankB b then lexR r (p+1)
  else if slash2 (b::r) then lexR (r.drop (lineN r)) (p+1+lineN r)
  else if firstN (b::r)=0 then .error p
  else (lexR (r.drop (firstN (b::r) - 1)) (p+firstN (b::r))).map (⟨firstK (b::r),(b::r).take (firstN (b::r)),p⟩::·)
termination_by l.length
decreasing_by all_goals simp;try omega
theorem lexR_nil (p:Nat):lexR [] p=.ok [⟨3,[],p⟩]:=by rw [lexR]
theorem lexR_cons (b:UInt8) (r:List UInt8) (p:Nat):lexR (b::r) p=if blankB b then lexR r (p+1) else if slash2 (b::r) then lexR (r.drop (lineN r)) (p+1+lineN r) else if firstN (b::r)=0 then .error p
  else (lexR (r.drop (firstN (b::r) - 1)) (p+firstN (b::r))).map (⟨firstK (b::r),(b::r).take (firstN (b::r)),p⟩::·):=by rw [lexR]
theorem jfk {l:List UInt8} (h:slash2 l=true):∃ r,l=47::47::r:=by
 match l,h with
 | [],h=>simp [slash2] at h
 | [a],h=>simp [slash2] at h
 | a::b::r,h=>
  simp [slash2] at h
  obtain ⟨rfl,rfl⟩:=h
  exact ⟨r,rfl⟩
theorem jfl:blankB 47=false:=by decide
theorem jwk {l:List UInt8} (h:slash2 l=true):skipN l=lineN l+skipN (l.drop (lineN l))∧2≤lineN l:=by
 obtain ⟨r,rfl⟩:=jfk h
 have h1:lineN (47::47::r)=lineN (47::r)+1:=by simp [lineN,spanN];omega
 have h2:lineN (47::r)=lineN r+1:=by simp [lineN,spanN];omega
 refine ⟨?_,by omega⟩
 rw [qxm,jfl,za (by simp),zb h,h1,List.drop_succ_cons]
 omega
theorem skip_none {l:List UInt8} (h:slash2 l=false) (hb:l=[]∨∃ b r,l=b::r∧blankB b=false):skipN l=0:=by
 rcases hb with rfl|⟨b,r,rfl,hb⟩
 ·exact jsz
 ·rw [qxm,hb,h];simp
theorem jta {l:List UInt8} (h:[61,61].isPrefixOf l=true∨[38,38].isPrefixOf l=true∨[124,124].isPrefixOf l=true):qlb l=2:=by
 unfold qlb
 rw [zb (by simp only [xr];rcases h with h|h|h <;> simp only [h,true_or,or_true])]
theorem jtb {b:UInt8} {r:List UInt8} (h1:[61,61].isPrefixOf (b::r)=false) (h2:[38,38].isPrefixOf (b::r)=false) (h3:[124,124].isPrefixOf (b::r)=false) :
  qlb (b::r)=if cls (b.toNat:Int)=5 then 1 else 0:=by
 unfold qlb
 rw [za (by simp only [h1,h2,h3];simp)]
def prep (acc:List Tok):Except Nat (List Tok)→Except Nat (List Tok)
 | .ok ts=>.ok (acc++ts)
 | .error e=>.error e
theorem prep_nil (x:Except Nat (List Tok)):prep [] x=x:=by cases x <;> rfl
theorem prep_snoc (acc:List Tok) (t:Tok) (x:Except Nat (List Tok)):prep acc (x.map (t::·))=prep (acc++[t]) x:=by cases x <;> simp [prep,Except.map]
def lexAll (s:List UInt8):List Tok × (Int × Int):=
 if 4000<s.length then ([],(12,0))
 else match lexR s 0 with
  | .ok ts=>(ts,(0,0))
  | .error p=>([],(10,p))
def lexAV (s:List UInt8):AV:=.tup [toks (lexAll s).1,.agg [.int .i64 (lexAll s).2.1,.int .i64 (lexAll s).2.2]]
theorem jtc {b:UInt8} {r:List UInt8} (h:skipN (b::r)=0):blankB b=false∧slash2 (b::r)=false:=by
 rw [qxm] at h
 constructor
 ·cases hb:blankB b with
  | false=>rfl
  | true=>rw [hb] at h;simp at h
 ·cases hs:slash2 (b::r) with
  | false=>rfl
  | true=>
   rw [hs] at h
   split at h
   ·omega
   ·simp at h
theorem lexR_tok {b:UInt8} {r:List UInt8} (h:skipN (b::r)=0) (p:Nat):lexR (b::r) p=if firstN (b::r)=0 then .error p
  else (lexR ((b::r).drop (firstN (b::r))) (p+firstN (b::r))).map (⟨firstK (b::r),(b::r).take (firstN (b::r)),p⟩::·):=by
 obtain ⟨h1,h2⟩:=jtc h
 rw [lexR_cons,h1,h2]
 simp only [Bool.false_eq_true,if_false]
 split
 ·rfl
 ·rename_i hn
  have:(b::r).drop (firstN (b::r))=r.drop (firstN (b::r) - 1):=by
   generalize firstN (b::r)=n at *
   cases n with
   | zero=>exact absurd rfl hn
   | succ n=>rfl
  rw [this]
theorem jtd (b:UInt8) (r:List UInt8):qlb (b::r)≤(b::r).length:=by
 unfold qlb
 split
 ·rename_i h
  simp only [xr,List.isPrefixOf_iff_prefix] at h
  rcases h with (h|h)|h <;> exact h.length_le
 ·simp only [xg]
  split <;> omega
theorem firstN_le (b:UInt8) (r:List UInt8):firstN (b::r)≤(b::r).length:=by
 unfold firstN
 simp only
 split
 ·exact jfj _ _
 ·split
  ·split
   ·omega
   ·exact jfj _ _
  ·exact jtd b r
def hasB (l:List UInt8) (c:Int):Bool:=l.any fun b=>(b.toNat:Int) == c
def digC (c:Int):Bool:=decide (48≤c) && decide (c≤57)
def letC (c:Int):Bool:=(decide (65≤c) && decide (c≤90)) || (decide (97≤c) && decide (c≤122))
def wordC (c:Int):Bool:=letC c || digC c || c == 95
def twoL (l:List UInt8):List UInt8:=if 2≤l.length then l.take 2 else []
theorem hasB_step {l:List UInt8} {k:Nat} (h:k<l.length) (c:Int):hasB (l.take (k+1)) c=(hasB (l.take k) c || qbi l (k:Int) == c):=by
 obtain ⟨b,h1,h2⟩:=drop_cons h
 rw [hasB,hasB,List.take_succ_eq_append_getElem h,List.any_append,h2]
 rw [zaz h] at h1
 injection h1 with h1 _
 simp [h1]
theorem hasB_take {l:List UInt8} {k:Nat} {c:Int} (h:hasB (l.take k) c=true):hasB l c=true:=by
 simp only [hasB,List.any_eq_true] at h ⊢
 obtain ⟨b,h1,h2⟩:=h
 exact ⟨b,List.mem_of_mem_take h1,h2⟩
theorem qmv {p:Nat→Prop} (h:∀ n,n<256→p n) (b:UInt8):p b.toNat:=h _ b.toNat_lt
theorem blank_has (b:UInt8):hasB [32,9,13,10] (b.toNat:Int)=blankB b:=by
 have:=qmv (p:=fun n=>hasB [32,9,13,10] (n:Int)=(cls (n:Int) == 1)) (by decide +kernel) b
 simpa [blankB,qmu] using this
theorem letC_cls (b:UInt8):letC (b.toNat:Int)=decide (cls (b.toNat:Int)=2):=qmv (p:=fun n=>letC (n:Int)=decide (cls (n:Int)=2)) (by decide +kernel) b
theorem digC_cls (b:UInt8):digC (b.toNat:Int)=decide (cls (b.toNat:Int)=3):=qmv (p:=fun n=>digC (n:Int)=decide (cls (n:Int)=3)) (by decide +kernel) b
theorem has_signs (b:UInt8):hasB signs (b.toNat:Int)=decide (cls (b.toNat:Int)=5):=qmv (p:=fun n=>hasB signs (n:Int)=decide (cls (n:Int)=5)) (by decide +kernel) b
theorem wordC_B (b:UInt8):wordC (b.toNat:Int)=wordB b:=by
 have:=qmv (p:=fun n=>wordC (n:Int)=[2,3,4].any fun c=>cls (n:Int) == c) (by decide +kernel) b
 exact this
theorem digC_B (b:UInt8):digC (b.toNat:Int)=digB b:=by
 have:=qmv (p:=fun n=>digC (n:Int)=[3].any fun c=>cls (n:Int) == c) (by decide +kernel) b
 exact this
theorem two_pre (x y:UInt8) (l:List UInt8):(twoL l == [x,y])=[x,y].isPrefixOf l:=by
 match l with
 | []=>rfl
 | [a]=>simp [twoL,List.isPrefixOf]
 | a::b::r=>simp [twoL,Bool.beq_comm (a:=x),Bool.beq_comm (a:=y)];grind
theorem spanN_step {p:UInt8→Bool} {l:List UInt8} {k:Nat} (h:k<l.length) (hp:p l[k]=true):spanN p (l.drop k)=1+spanN p (l.drop (k+1)):=by
 rw [zaz h,spanN,zb hp]
theorem spanN_end {p:UInt8→Bool} {l:List UInt8} {k:Nat} (h:k<l.length) (hp:p l[k]=false):spanN p (l.drop k)=0:=by
 rw [zaz h,spanN,za (by simp [hp])]
theorem spanN_out {p:UInt8→Bool} {l:List UInt8} {k:Nat} (h:l.length≤k):spanN p (l.drop k)=0:=by
 rw [List.drop_eq_nil_of_le h];rfl
theorem byteAt_get {l:List UInt8} {k:Nat} (h:k<l.length):qbi l (k:Int)=(l[k].toNat:Int):=by
 simp [qbi,List.getD,h]
theorem first_two {b:UInt8} {r:List UInt8} (h:[61,61].isPrefixOf (b::r)=true∨[38,38].isPrefixOf (b::r)=true∨[124,124].isPrefixOf (b::r)=true):firstN (b::r)=2∧firstK (b::r)=2:=by
 have hb:b=61∨b=38∨b=124:=by
  rcases h with h|h|h <;> simp at h
  ·exact .inl h.1.symm
  ·exact .inr (.inl h.1.symm)
  ·exact .inr (.inr h.1.symm)
 have hc:cls (b.toNat:Int)≠2∧cls (b.toNat:Int)≠3:=by rcases hb with rfl|rfl|rfl <;> decide +kernel
 simp only [firstN,firstK,za hc.1,za hc.2,jta h,and_self]
theorem first_let {b:UInt8} {r:List UInt8} (h:cls (b.toNat:Int)=2):firstN (b::r)=spanN wordB (b::r)∧firstK (b::r)=0:=by
 simp only [firstN,firstK,zb h,and_self]
theorem first_dig {b:UInt8} {r:List UInt8} (h:cls (b.toNat:Int)=3):firstN (b::r)=(if 6<spanN digB (b::r) then 0 else spanN digB (b::r))∧firstK (b::r)=1:=by
 have h2:¬ cls (b.toNat:Int)=2:=by omega
 simp only [firstN,firstK,za h2,zb h,and_self]
theorem first_sig {b:UInt8} {r:List UInt8} (h1:[61,61].isPrefixOf (b::r)=false) (h2:[38,38].isPrefixOf (b::r)=false) (h3:[124,124].isPrefixOf (b::r)=false)
  (hl:¬ cls (b.toNat:Int)=2) (hd:¬ cls (b.toNat:Int)=3):firstN (b::r)=(if cls (b.toNat:Int)=5 then 1 else 0)∧firstK (b::r)=2:=by
 simp only [firstN,firstK,za hl,za hd,jtb h1 h2 h3,and_self]
theorem ne10 (b:UInt8):((b.toNat:Int) != 10)=(b != 10):=by
 rw [Bool.eq_iff_iff]
 simp only [bne_iff_ne,ne_eq]
 constructor
 ·intro h h2;exact h (by rw [h2];rfl)
 ·intro h h2;exact h (UInt8.toNat_inj.1 (by simpa using Int.ofNat.inj h2))
theorem lexR_slash {b:UInt8} {r:List UInt8} (h:slash2 (b::r)=true) (p:Nat):lexR (b::r) p=lexR ((b::r).drop (lineN (b::r))) (p+lineN (b::r))∧0<lineN (b::r):=by
 obtain ⟨r',hr'⟩:=jfk h
 injection hr' with hb hr'
 subst hb
 have h1:lineN (47::r)=lineN r+1:=by simp [lineN,spanN];omega
 rw [lexR_cons,jfl,za (by simp),zb h,h1,List.drop_succ_cons]
 refine ⟨?_,by omega⟩
 congr 1
 omega
theorem span_pos {p:UInt8→Bool} {b:UInt8} {r:List UInt8} (h:p b=true):0<spanN p (b::r):=by
 rw [spanN,zb h];omega
theorem let_word {b:UInt8} (h:cls (b.toNat:Int)=2):wordB b=true:=by simp [wordB,qmu,h]
theorem dig_dig {b:UInt8} (h:cls (b.toNat:Int)=3):digB b=true:=by simp [digB,qmu,h]
def keys:List (List UInt8):=[[99,104,97,110],[111,102],[108,111,115,115,121],[99,111,112,121,105,110,103],[118,97,114],[112,114,111,99],[115,97,102,101],[100,101,97,100,108,111,99,107],[115,101,110,100],[114,101,99,118],[105,100,108,101],[119,104,101,110],[99,104,111,111,115,101],[111,114],[105,102],[101,108,115,101],[119,104,105,108,101],[97,116,111,109,105,99],[115,107,105,112],[115,116,111,112],[108,101,110]]
end Lx
end Go.Proofs.YtikahnkkfkoglaaGreatDoor
end
section
namespace Go.Proofs.YtikahnkkfkoglaaGreatDoor
namespace Pa
open Go Go.Sx
abbrev qps:List UInt8:=[99,104,97,110]
abbrev kOf:List UInt8:=[111,102]
abbrev qie:List UInt8:=[108,111,115,115,121]
abbrev qjm:List UInt8:=[99,111,112,121,105,110,103]
abbrev kVar:List UInt8:=[118,97,114]
abbrev jd:List UInt8:=[112,114,111,99]
abbrev qpt:List UInt8:=[115,97,102,101]
abbrev qmw:List UInt8:=[100,101,97,100,108,111,99,107]
abbrev qpu:List UInt8:=[115,101,110,100]
abbrev qdt:List UInt8:=[114,101,99,118]
abbrev qef:List UInt8:=[105,100,108,101]
abbrev qfk:List UInt8:=[119,104,101,110]
abbrev jk:List UInt8:=[99,104,111,111,115,101]
abbrev kOr:List UInt8:=[111,114]
abbrev kIf:List UInt8:=[105,102]
abbrev qpv:List UInt8:=[101,108,115,101]
abbrev qpw:List UInt8:=[119,104,105,108,101]
abbrev qpx:List UInt8:=[97,116,111,109,105,99]
abbrev qpy:List UInt8:=[115,107,105,112]
abbrev qpz:List UInt8:=[115,116,111,112]
abbrev kLen:List UInt8:=[108,101,110]
abbrev sLb:List UInt8:=[91]
abbrev sRb:List UInt8:=[93]
abbrev sLc:List UInt8:=[123]
abbrev sRc:List UInt8:=[125]
abbrev sLp:List UInt8:=[40]
abbrev sRp:List UInt8:=[41]
abbrev qx:List UInt8:=[59]
abbrev sEq:List UInt8:=[61]
abbrev sLt:List UInt8:=[60]
abbrev jfm:List UInt8:=[43]
abbrev qfl:List UInt8:=[45]
abbrev qge:List UInt8:=[42]
abbrev jfn:List UInt8:=[47]
abbrev sPct:List UInt8:=[37]
abbrev qtk:List UInt8:=[33]
abbrev sOr2:List UInt8:=[124,124]
abbrev qqa:List UInt8:=[38,38]
abbrev sEq2:List UInt8:=[61,61]
inductive Tr where
 | mk (kind:Int) (words:List (List UInt8)) (nums:List Int) (at_:Int) (l:List Tr)
def Tr.kind:Tr→Int | .mk k _ _ _ _=>k
def Tr.words:Tr→List (List UInt8) | .mk _ w _ _ _=>w
def Tr.nums:Tr→List Int | .mk _ _ n _ _=>n
def Tr.at_:Tr→Int | .mk _ _ _ a _=>a
def Tr.l:Tr→List Tr | .mk _ _ _ _ l=>l
def Tr.none:Tr:=.mk 0 [] [] 0 []
structure Ps where
 at_:Int
 deep:Int:=0
 err:Int:=0
 fat:Int:=0
section
variable (ts:List Lx.Tok)
def tk (p:Ps):Lx.Tok:=ts.getD p.at_.toNat Lx.tok0
def Ps.cells (p:Ps):List AV:=[Lx.toks ts,iv p.at_,iv p.deep,iv p.err,iv p.fat]
def qxn (t:Lx.Tok) (s:List UInt8):Bool:=t.s == s && (t.kind == 2 || t.kind == 0 && Go.St.keyF s)
def sees (p:Ps) (s:List UInt8):Bool:=p.err == 0 && qxn (tk ts p) s
def adv (p:Ps):Ps:={ p with at_:=p.at_+1 }
def bad (p:Ps) (e:Int):Ps:=if p.err=0 then { p with err:=e,fat:=(tk ts p).pos } else p
def took (p:Ps) (s:List UInt8):Ps:=if sees ts p s=true then adv p else p
def must (p:Ps) (s:List UInt8):Ps:=if sees ts p s=true then adv p else bad ts p 11
def qif (p:Ps):Bool:=(tk ts p).kind == 0 && Go.St.nameF (tk ts p).s && p.err == 0
def qai (p:Ps):List UInt8:=if qif ts p=true then (tk ts p).s else []
def qf (p:Ps):Ps:=if qif ts p=true then adv p else bad ts p 11
def qhe (p:Ps):Bool:=(tk ts p).kind == 1 && p.err == 0
def qhf (s:List UInt8):Int:=s.foldl (fun n b=>10 * n+((b.toNat:Int) - 48)) 0
def numN (p:Ps):Int:=if qhe ts p=true then qhf (tk ts p).s else 0
def numP (p:Ps):Ps:=if qhe ts p=true then adv p else bad ts p 11
def qhg (p:Ps) (s:List UInt8):Int:=if sees ts p s=true then 1 else 0
def inP (p:Ps):Ps:=if 200<p.deep+1 then bad ts { p with deep:=p.deep+1 } 12 else { p with deep:=p.deep+1 }
def outP (p:Ps):Ps:={ p with deep:=p.deep - 1 }
def binT (sg:Int) (a b:Tr):Tr:=.mk 22 [] [sg] a.at_ [a,b]
def qaz (f:Ps→Tr × Ps) (c:Ps→Bool) (sg:Ps→Int):Nat→Tr→Ps→Tr × Ps
 | 0,a,p=>(a,p)
 | n+1,a,p=>if c p=true then qaz f c sg n (binT (sg p) a (f (adv p)).1) (f (adv p)).2 else (a,p)
def qmx (f:Ps→Tr × Ps) (s:List UInt8) (sg:Int) (p:Ps):Tr × Ps:=
 if sees ts (f p).2 s=true then (binT sg (f p).1 (f (adv (f p).2)).1,(f (adv (f p).2)).2) else f p
def qeg (p:Ps):Bool:=sees ts p qge || (sees ts p jfn || sees ts p sPct)
def qjn (p:Ps):Int:=if sees ts p qge=true then 6 else if sees ts p jfn=true then 7 else 8
def sumC (p:Ps):Bool:=sees ts p jfm || sees ts p qfl
def sumS (p:Ps):Int:=if sees ts p jfm=true then 4 else 5
def qcp (part:Ps→Tr × Ps) (p:Ps):Tr × Ps:=qaz part (qeg ts) (qjn ts) ts.length (part p).1 (part p).2
def sumF (part:Ps→Tr × Ps) (p:Ps):Tr × Ps:=qaz (qcp ts part) (sumC ts) (sumS ts) ts.length (qcp ts part p).1 (qcp ts part p).2
def qck (part:Ps→Tr × Ps) (p:Ps):Tr × Ps:=qmx ts (sumF ts part) sLt 3 p
def qdu (part:Ps→Tr × Ps) (p:Ps):Tr × Ps:=qmx ts (qck ts part) sEq2 2 p
def andF (part:Ps→Tr × Ps) (p:Ps):Tr × Ps:=qaz (qdu ts part) (fun p=>sees ts p qqa) (fun _=>1) ts.length (qdu ts part p).1 (qdu ts part p).2
def qeh (part:Ps→Tr × Ps) (p:Ps):Tr × Ps:=qaz (andF ts part) (fun p=>sees ts p sOr2) (fun _=>0) ts.length (andF ts part p).1 (andF ts part p).2
def ifOk (f:Ps→Tr × Ps) (p:Ps):List Tr × Ps:=if p.err=0 then ([(f p).1],(f p).2) else ([],p)
def qas:Nat→Ps→Tr × Ps
 | 0,p=>(.none,p)
 | n+1,p=>
  let a:=(tk ts p).pos
  if p.err=0∧(tk ts p).kind=1 then (.mk 17 [] [numN ts p] a [],numP ts p)
  else if sees ts p kLen=true then (.mk 19 [qai ts (adv p)] [] a [],qf ts (adv p))
  else if sees ts p qfl=true∨sees ts p qtk=true then
   (.mk (if sees ts p qfl=true then 20 else 21) [] [] a (ifOk (qas n) (inP ts (adv p))).1,outP (ifOk (qas n) (inP ts (adv p))).2)
  else if sees ts p sLp=true then
   ((if (inP ts (adv p)).err=0 then (qeh ts (qas n) (inP ts (adv p))).1 else .mk 17 [] [] a []),
    must ts (outP (if (inP ts (adv p)).err=0 then (qeh ts (qas n) (inP ts (adv p))).2 else inP ts (adv p))) sRp)
  else (.mk 18 [qai ts p] [] a [],qf ts p)
def eF (p:Ps):Tr × Ps:=qeh ts (qas ts ts.length) p
def jp (stat:Ps→Tr × Ps):Nat→List Tr→Ps→List Tr × Ps
 | 0,l,p=>(l,p)
 | n+1,l,p=>if p.err=0 then (if sees ts p sRc=true then (l,adv p) else jp stat n (l++[(stat p).1]) (stat p).2) else (l,p)
def qy (stat:Ps→Tr × Ps) (p:Ps):Tr × Ps:=
 (.mk 16 [] [] (tk ts p).pos (jp ts stat ts.length [] (inP ts (must ts p sLc))).1,outP (jp ts stat ts.length [] (inP ts (must ts p sLc))).2)
def orL (blk:Ps→Tr × Ps):Nat→List Tr→Ps→List Tr × Ps
 | 0,l,p=>(l,p)
 | n+1,l,p=>if sees ts p kOr=true then orL blk n (l++[(blk (adv p)).1]) (blk (adv p)).2 else (l,p)
def qdv (blk:Ps→Tr × Ps) (a idle:Int) (p:Ps):Tr × Ps:=
 if sees ts p qdt=true then
  (.mk 8 [qai ts (adv p),qai ts (qf ts (adv p))] [idle] a [],must ts (qf ts (qf ts (adv p))) qx)
 else if sees ts p qfk=true then (.mk 9 [] [idle] a [(eF ts (adv p)).1],must ts (eF ts (adv p)).2 qx)
 else
  let q:=must ts p jk
  let r:=orL ts blk ts.length [(blk q).1] (blk q).2
  (.mk 10 [] [idle] a r.1,r.2)
def qe:Nat→Ps→Tr × Ps
 | 0,p=>(.none,p)
 | n+1,p=>
  let a:=(tk ts p).pos
  let blk:=qy ts (qe n)
  if sees ts p qef=true∨sees ts p qdt=true∨sees ts p qfk=true∨sees ts p jk=true then qdv ts blk a (qhg ts p qef) (took ts p qef)
  else if sees ts p qpu=true then
   (.mk 7 [qai ts (adv p)] [] a [(eF ts (qf ts (adv p))).1],must ts (eF ts (qf ts (adv p))).2 qx)
  else if sees ts p kIf=true then
   let e:=eF ts (adv p)
   let b:=blk e.2
   if sees ts b.2 qpv=true then (.mk 11 [] [] a [e.1,b.1,(blk (adv b.2)).1],(blk (adv b.2)).2) else (.mk 11 [] [] a [e.1,b.1],b.2)
  else if sees ts p qpw=true then
   let e:=eF ts (adv p)
   (.mk 12 [] [] a [e.1,(blk e.2).1],(blk e.2).2)
  else if sees ts p qpx=true then (.mk 13 [] [] a [(blk (adv p)).1],(blk (adv p)).2)
  else if sees ts p qpy=true then (.mk 14 [] [] a [],must ts (adv p) qx)
  else if sees ts p qpz=true then (.mk 15 [] [] a [],must ts (adv p) qx)
  else
   let q:=must ts (qf ts p) sEq
   (.mk 6 [qai ts p] [] a [(eF ts q).1],must ts (eF ts q).2 qx)
def sF (p:Ps):Tr × Ps:=qe ts ts.length p
def jz (p:Ps):Tr × Ps:=
 let w:=qf ts (must ts p kVar)
 let q:=must ts w kOf
 let r:=numP ts q
 let v:=if sees ts r sEq=true then (if sees ts (adv r) qfl=true then (0 - numN ts (adv (adv r)),numP ts (adv (adv r))) else (numN ts (adv r),numP ts (adv r))) else (0,r)
 (.mk 2 [qai ts (must ts p kVar)] [numN ts q,v.1] (tk ts p).pos [],must ts v.2 qx)
def qcd:Nat→List Tr→Ps→List Tr × Ps
 | 0,l,p=>(l,p)
 | n+1,l,p=>if sees ts p kVar=true then qcd n (l++[(jz ts p).1]) (jz ts p).2 else (l,p)
def qdw (p:Ps):Tr × Ps:=
 let q:=qf ts (must ts p jd)
 let c:=if sees ts q qge=true then (numN ts (adv q),numP ts (adv q)) else (1,q)
 let r:=must ts c.2 sLc
 let v:=qcd ts ts.length [] r
 let s:=jp ts (sF ts) ts.length v.1 (inP ts v.2)
 (.mk 3 [qai ts (must ts p jd)] [c.1] (tk ts p).pos s.1,outP s.2)
def itemF (p:Ps):Tr × Ps:=
 let a:=(tk ts p).pos
 if sees ts p kVar=true then jz ts p
 else if sees ts p jd=true then qdw ts p
 else if sees ts p qps=true then
  let q:=must ts (qf ts (adv p)) sLb
  let r:=must ts (must ts (numP ts q) sRb) kOf
  let u:=took ts (numP ts r) qie
  (.mk 1 [qai ts (adv p)] [numN ts q,numN ts r,qhg ts (numP ts r) qie,qhg ts u qjm] a [],must ts (took ts u qjm) qx)
 else if sees ts p qpt=true then (.mk 4 [] [] a [(eF ts (adv p)).1],must ts (eF ts (adv p)).2 qx)
 else (.mk 5 [] [] a [],must ts (must ts p qmw) qx)
def qdx:Nat→List Tr→Ps→List Tr × Ps
 | 0,l,p=>(l,p)
 | n+1,l,p=>if p.err=0∧(tk ts p).kind≠3 then qdx n (l++[(itemF ts p).1]) (itemF ts p).2 else (l,p)
def qcy (p:Ps):Tr × Ps:=
 (.mk 0 [] [] (tk ts p).pos (qdx ts ts.length [] p).1,(qdx ts ts.length [] p).2)
end
mutual
def Tr.cellsA:Tr→List AV
 | .mk k w n a l=>[iv k,strs w,ints n,.nils,iv a,.slc 6 l.length fun i=>(Tr.cellsL l).getD i []]
def Tr.cellsL:List Tr→List (List AV)
 | []=>[]
 | t::r=>t.cellsA::Tr.cellsL r
end
def qmy (l:List Tr):AV:=.slc 6 l.length fun i=>(Tr.cellsL l).getD i []
def Tr.cells (t:Tr):List AV:=[iv t.kind,strs t.words,ints t.nums,.nils,iv t.at_,qmy t.l]
def Tr.av (t:Tr):AV:=.agg t.cells
theorem Tr.cellsA_eq (t:Tr):t.cellsA=t.cells:=by cases t;rfl
theorem Tr.cellsL_get:∀ (l:List Tr) (i:Nat),i<l.length→(Tr.cellsL l).getD i []=(l.getD i Tr.none).cells
 | [],i,h=>absurd h (zh i)
 | t::r,0,_=>by rw [Tr.cellsL];exact t.cellsA_eq
 | t::r,i+1,h=>by
  have:=Tr.cellsL_get r i (by simpa using h)
  rw [Tr.cellsL]
  simpa using this
mutual
def Tr.size:Tr→Nat
 | .mk _ _ _ _ l=>1+Tr.sizeL l
def Tr.sizeL:List Tr→Nat
 | []=>0
 | t::r=>t.size+Tr.sizeL r
end
def js:Nat→List Tr→List Int
 | _,[]=>[]
 | n,t::r=>(n:Int)::js (n+t.size) r
mutual
def layT:Nat→Tr→List Nd
 | n,.mk k w ns a l=>⟨k,w,ns,js (n+1) l,a⟩::layL (n+1) l
def layL:Nat→List Tr→List Nd
 | _,[]=>[]
 | n,t::r=>layT n t++layL (n+t.size) r
end
mutual
def deepT:Tr→Int→Int
 | .mk _ _ _ a l,n=>if 20<n then a else deepL l n
def deepL:List Tr→Int→Int
 | [],_=>-1
 | t::r,n=>if 0≤deepT t (n+1) then deepT t (n+1) else deepL r n
end
def qqb (ts:List Lx.Tok):List Nd × (Int × Int):=
 let r:=qcy ts ⟨0,0,0,0⟩
 if r.2.err≠0 then ([],(r.2.err,r.2.fat))
 else if 800<(layT 0 r.1).length then ([],(12,0))
 else if 0≤deepT r.1 1 then ([],(12,deepT r.1 1))
 else (layT 0 r.1,(0,0))
def qqc (s:List UInt8):List Nd × (Int × Int):=if (Lx.lexAll s).2.1≠0 then ([],(Lx.lexAll s).2) else qqb (Lx.lexAll s).1
def jte (r:List Nd × (Int × Int)):AV:=.tup [jx r.1,flt r.2.1 r.2.2]
end Pa
end Go.Proofs.YtikahnkkfkoglaaGreatDoor
end
section
namespace Go.Proofs.YtikahnkkfkoglaaGreatDoor
namespace Pa
open Go Go.Sx
def lexF:Nat→List UInt8→Nat→Except Nat (List Lx.Tok)
 | 0,_,p=>.error p
 | _+1,[],p=>.ok [⟨3,[],p⟩]
 | n+1,b::r,p=>if Lx.blankB b then lexF n r (p+1) else if Lx.slash2 (b::r) then lexF n (r.drop (Lx.lineN r)) (p+1+Lx.lineN r) else if Lx.firstN (b::r)=0 then .error p
  else (lexF n (r.drop (Lx.firstN (b::r) - 1)) (p+Lx.firstN (b::r))).map (⟨Lx.firstK (b::r),(b::r).take (Lx.firstN (b::r)),p⟩::·)
theorem qtl:∀ (n:Nat) (l:List UInt8) (p:Nat),l.length<n→lexF n l p=Lx.lexR l p
 | 0,_,_,h=>absurd h (zh _)
 | n+1,[],p,_=>by rw [Lx.lexR_nil];rfl
 | n+1,b::r,p,h=>by
  have hr:r.length<n:=by simpa using h
  rw [Lx.lexR_cons,lexF,qtl n r _ hr,qtl n (r.drop (Lx.lineN r)) _ (by rw [xj];omega),qtl n (r.drop (Lx.firstN (b::r) - 1)) _ (by rw [xj];omega)]
def qxo (s:List UInt8):List Nd × (Int × Int):=
 match lexF (s.length+1) s 0 with
 | .ok ts=>qqb ts
 | .error p=>([],(10,p))
theorem jtf {s:List UInt8} {r:List Nd × (Int × Int)} (h:qxo s=r) (hs:s.length≤4000):qqc s=r:=by
 unfold qxo at h
 rw [qtl _ _ _ (zaw _)] at h
 have hn:¬ 4000<s.length:=by omega
 unfold qqc Lx.lexAll
 split at h
 ·rename_i ts hts
  first|rw [hts,za hn]|rw [za hn]
  exact h
 ·rename_i p hp
  first|rw [hp,za hn]|rw [za hn]
  exact h
end Pa
end Go.Proofs.YtikahnkkfkoglaaGreatDoor
end
section
namespace Go.Proofs.YtikahnkkfkoglaaGreatDoor
open Go Go.Sx Go.St

end Go.Proofs.YtikahnkkfkoglaaGreatDoor
end
