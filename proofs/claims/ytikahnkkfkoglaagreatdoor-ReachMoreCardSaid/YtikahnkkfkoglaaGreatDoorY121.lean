/- Some texts of the library, one behind the other. -/
import Derived.Test.YtikahnkkfkoglaaGreatDoorY119
import Derived.Test.YtikahnkkfkoglaaGreatDoorY120
import Derived.Test.YtikahnkkfkoglaaGreatDoorY11
import Derived.Test.YtikahnkkfkoglaaGreatDoorY12
set_option linter.unusedSimpArgs false
set_option linter.unusedVariables false
section
namespace Go.Proofs.YtikahnkkfkoglaaGreatDoor
open List renaming getD_eq_getElem?_getD → zd
open Go Go.Sx Go.RowKit Go.St
set_option maxRecDepth 100000
set_option maxHeartbeats 8000000
theorem jdl (m:Md) (hM:ModOk m) (hf:fitsB m (jj m)=true) (steps most:Int) :
  Con Tryz.prog 14 [m.av,iv steps,iv most] (.tup [iv (qgl m steps most).1,.bool (qgl m steps most).2]):=by
 have hbg:=qvw m hM hf most
 have hms:=qru most
 have hL0:=qwc hf hms.1
 unfold qgl
 by_cases hst:steps<0
 ·rw [zb hst]
  refine zK {} 300 Tryz.func14 (fun c0 rdb=>?_)
  (repeat' ((conv=>whnf);first|refine zA ?_|refine zO ?_|refine Ob.auto ?_|refine zD 300 ?_|(apply zB <;> intro hb <;> (try simp [-zd] at hb) <;> try (exfalso;omega))|refine Ob.intro ?_ ?_))
  exact Le.refl _
 rw [za hst]
 unfold qka
 generalize qch most=mo at *
 generalize hR:qdw m steps mo 20001 0 (qcc m)=R
 unfold qod kMap kRow at hbg
 refine zK {} 300 Tryz.func14 (fun c0 rdb=>?_)
 (repeat' ((conv=>whnf);first|refine zA ?_|refine zO ?_|refine Ob.auto ?_|refine zD 300 ?_|(apply zB <;> intro hb <;> (try simp [-zd] at hb) <;> try (exfalso;omega))|refine Ob.intro ?_ ?_))
 ((conv=>whnf);refine zT 300 [] (hbg) qa ?_)
 (repeat' ((conv=>whnf);first|refine zA ?_|refine zO ?_|refine Ob.auto ?_|(refine Ob.intro (by (first|exact ⟨rfl,rfl⟩|exact ⟨⟨rfl,rfl⟩,zbg⟩|exact ⟨by omega,by omega⟩)) ?_)|refine zD 300 ?_|(apply zB <;> intro hb <;> (try simp [-zd] at hb) <;> try (exfalso;omega))|refine Ob.intro ?_ ?_))
 ((conv=>whnf);refine qo (fun _=>rfl) 300 1 (fun g:Nat × List Fnd=>[(10,iv g.1)]) (fun g=>[(3,.box 71 (m.cells++[iv mo,.own 4 0 0 g.2.length,.mapv 2])),(2,.box qz [.keys (qey g.2)]),(4,.row [] 67 10 0 g.2.length (encL Fnd.cells Fnd.none g.2))]) (fun g=>LOk m mo g.2∧qdw m steps mo (20001 - g.1) g.1 g.2=R∧g.1≤g.2.length) (fun g=>20002 - g.1) ((0,qcc m)) (⟨hL0,hR,xb _⟩) qa qa (fun _=>rfl) (by kernel_rfl) ?_;(conv=>whnf))
 rintro ⟨at_,L⟩ ⟨hL,hex,hal⟩
 simp only at hL hex hal
 have hle:=hL.le
 have hne:=hL.ne
 obtain ⟨n,hn⟩:∃ n,20001 - at_=n+1:=⟨20000 - at_,by omega⟩
 rw [hn,qdw] at hex
 have hn':20001 - (at_+1)=n:=by omega
 by_cases hc:at_<L.length∧(L.getD at_ Fnd.none).depth<steps
 ·rw [zb hc] at hex
  have hsp:=jql m hM mo hms.2 L hL at_ hc.1
  have hok:=qvo hM (bad:=fun _=>false) hL hc.1
  generalize qag m mo (fun _=>false) at_ L=S at hsp hok hex
  obtain ⟨S1,S2,S3⟩:=S
  simp only at hok hex
  (repeat' ((conv=>whnf);first|refine zA ?_|refine zO ?_|refine Ob.auto ?_|(refine Ob.intro (by (first|exact ⟨rfl,rfl⟩|exact ⟨by omega,by omega⟩)) ?_)|refine zD 300 ?_|(apply zB <;> intro hb <;> (try simp [-zd] at hb) <;> try (exfalso;omega))|refine Ob.intro ?_ ?_))
  ((conv=>whnf);refine zT 300 [3,2,4] (hsp) qa ?_)
  (repeat' ((conv=>whnf);first|refine zA ?_|refine zO ?_|refine Ob.auto ?_|(refine Ob.intro (by (first|exact ⟨rfl,rfl⟩|exact ⟨by omega,by omega⟩)) ?_)|refine zD 300 ?_|(apply zB <;> intro hb <;> (try simp [-zd] at hb) <;> try (exfalso;omega))|refine Ob.intro ?_ ?_))
  ·have h2:S2=false:=by assumption
   subst h2
   rw [za (by decide)] at hex
   subst hex
   exact Le.refl _
  ·have h2:S2=true:=by assumption
   subst h2
   rw [zb rfl] at hex
   ((conv=>whnf);refine ⟨(at_+1,S1),⟨hok.1,by rw [hn'];exact hex,by have:=hok.2;simp only;omega⟩,⟨qa,qa⟩,⟨qa,qa⟩,?_⟩;(first|omega|(dsimp only;omega)|skip))
 ·rw [za hc] at hex
  subst hex
  (repeat' ((conv=>whnf);first|refine zA ?_|refine zO ?_|refine Ob.auto ?_|(refine Ob.intro (by (first|exact ⟨rfl,rfl⟩|exact ⟨by omega,by omega⟩)) ?_)|refine zD 300 ?_|(apply zB <;> intro hb <;> (try simp [-zd] at hb) <;> try (exfalso;omega))|refine Ob.intro ?_ ?_))
  exact Le.refl _
end Go.Proofs.YtikahnkkfkoglaaGreatDoor
end
section
namespace Go.Proofs.YtikahnkkfkoglaaGreatDoor
namespace Lx
open Go.Sx
def signs:List UInt8:=[123,125,91,93,40,41,59,61,60,43,45,42,47,37,33]
def cls (c:Int):Int:=
 if (65≤c∧c≤90)∨(97≤c∧c≤122) then 2
 else if 48≤c∧c≤57 then 3
 else if c=95 then 4
 else if c=32∨c=9∨c=13∨c=10 then 1
 else if c=38∨c=124 then 6
 else if 0≤Lib.indexByte signs c.toNat.toUInt8 then 5
 else 0
def jqm (x:Int):List AV:=[.int .i64 x]
def ints (l:List Int):AV:=slcL jqm 0 1 l
def qlr (cl:List Int) (b:UInt8):Bool:=cl.any fun c=>cls (b.toNat:Int) == c
def spanN (p:UInt8→Bool):List UInt8→Nat
 | []=>0
 | b::r=>if p b then 1+spanN p r else 0
theorem jdm (p:UInt8→Bool) (l:List UInt8):spanN p l≤l.length:=by
 induction l with
 | nil=>simp [spanN]
 | cons b r ih=>simp only [spanN];split <;> simp <;> omega
theorem drop_cons {l:List UInt8} {k:Nat} (h:k<l.length):∃ b,l.drop k=b::l.drop (k+1)∧qbc l (k:Int)=(b.toNat:Int):=by
 refine ⟨l[k],zav h,?_⟩
 simp [qbc,List.getD,h]
def slash2 (l:List UInt8):Bool:=[47,47].isPrefixOf l
def blankB (b:UInt8):Bool:=qlr [1] b
def wordB (b:UInt8):Bool:=qlr [2,3,4] b
def digB (b:UInt8):Bool:=qlr [3] b
def lineN (l:List UInt8):Nat:=spanN (fun b=>b != 10) l
def skipN (l:List UInt8):Nat:=
 match l with
 | []=>0
 | b::r=>
  if blankB b then 1+skipN r
  else if slash2 (b::r) then 1+lineN r+skipN (r.drop (lineN r))
  else 0
termination_by l.length
decreasing_by all_goals simp;try omega
theorem jqn:skipN []=0:=by rw [skipN]
theorem qwd (b:UInt8) (r:List UInt8):skipN (b::r)=if blankB b then 1+skipN r else if slash2 (b::r) then 1+lineN r+skipN (r.drop (lineN r)) else 0:=by rw [skipN]
def qke (l:List UInt8):Nat:=
 if [61,61].isPrefixOf l || [38,38].isPrefixOf l || [124,124].isPrefixOf l then 2
 else match l with
  | []=>0
  | b::_=>if cls (b.toNat:Int)=5 then 1 else 0
def firstK (l:List UInt8):Int:=
 match l with
 | []=>2
 | b::_=>if cls (b.toNat:Int)=2 then 0 else if cls (b.toNat:Int)=3 then 1 else 2
def firstN (l:List UInt8):Nat:=
 match l with
 | []=>0
 | b::r=>if cls (b.toNat:Int)=2 then spanN wordB (b::r) else if cls (b.toNat:Int)=3 then (if 6<spanN digB (b::r) then 0 else spanN digB (b::r)) else qke (b::r)
structure Tok where
 kind:Int
 s:List UInt8
 pos:Int
def tok0:Tok:=⟨0,[],0⟩
def encTok (t:Tok):List AV:=[.int .i64 t.kind,.str t.s,.int .i64 t.pos]
def toks (l:List Tok):AV:=slcL encTok tok0 3 l
def lexR (l:List UInt8) (p:Nat):Except Nat (List Tok):=
 match l with
 | []=>.ok [⟨3,[],p⟩]
 | b::r=>
  if blankB b then lexR r (p+1)
  else if slash2 (b::r) then lexR (r.drop (lineN r)) (p+1+lineN r)
  else if firstN (b::r)=0 then .error p
  else (lexR (r.drop (firstN (b::r) - 1)) (p+firstN (b::r))).map (⟨firstK (b::r),(b::r).take (firstN (b::r)),p⟩::·)
termination_by l.length
decreasing_by all_goals simp;try omega
theorem lexR_nil (p:Nat):lexR [] p=.ok [⟨3,[],p⟩]:=by rw [lexR]
theorem lexR_cons (b:UInt8) (r:List UInt8) (p:Nat):lexR (b::r) p=if blankB b then lexR r (p+1) else if slash2 (b::r) then lexR (r.drop (lineN r)) (p+1+lineN r) else if firstN (b::r)=0 then .error p
  else (lexR (r.drop (firstN (b::r) - 1)) (p+firstN (b::r))).map (⟨firstK (b::r),(b::r).take (firstN (b::r)),p⟩::·):=by rw [lexR]
theorem jdn {l:List UInt8} (h:slash2 l=true):∃ r,l=47::47::r:=by
 match l,h with
 | [],h=>simp [slash2] at h
 | [a],h=>simp [slash2] at h
 | a::b::r,h=>
  simp [slash2] at h
  obtain ⟨rfl,rfl⟩:=h
  exact ⟨r,rfl⟩
theorem jdo:blankB 47=false:=by decide
theorem jtw {l:List UInt8} (h:slash2 l=true):skipN l=lineN l+skipN (l.drop (lineN l))∧2≤lineN l:=by
 obtain ⟨r,rfl⟩:=jdn h
 have h1:lineN (47::47::r)=lineN (47::r)+1:=by simp [lineN,spanN];omega
 have h2:lineN (47::r)=lineN r+1:=by simp [lineN,spanN];omega
 refine ⟨?_,by omega⟩
 rw [qwd,jdo,za (by simp),zb h,h1,List.drop_succ_cons]
 omega
theorem skip_none {l:List UInt8} (h:slash2 l=false) (hb:l=[]∨∃ b r,l=b::r∧blankB b=false):skipN l=0:=by
 rcases hb with rfl|⟨b,r,rfl,hb⟩
 ·exact jqn
 ·rw [qwd,hb,h];simp
theorem jqo {l:List UInt8} (h:[61,61].isPrefixOf l=true∨[38,38].isPrefixOf l=true∨[124,124].isPrefixOf l=true):qke l=2:=by
 unfold qke
 rw [zb (by simp only [zaa];rcases h with h|h|h <;> simp only [h,true_or,or_true])]
theorem jqp {b:UInt8} {r:List UInt8} (h1:[61,61].isPrefixOf (b::r)=false) (h2:[38,38].isPrefixOf (b::r)=false) (h3:[124,124].isPrefixOf (b::r)=false) :
  qke (b::r)=if cls (b.toNat:Int)=5 then 1 else 0:=by
 unfold qke
 rw [za (by simp only [h1,h2,h3];simp)]
def prep (acc:List Tok):Except Nat (List Tok)→Except Nat (List Tok)
 | .ok ts=>.ok (acc++ts)
 | .error e=>.error e
theorem prep_nil (x:Except Nat (List Tok)):prep [] x=x:=by cases x <;> rfl
theorem prep_snoc (acc:List Tok) (t:Tok) (x:Except Nat (List Tok)):prep acc (x.map (t::·))=prep (acc++[t]) x:=by cases x <;> simp [prep,Except.map]
def lexAll (s:List UInt8):List Tok × (Int × Int):=
 if 4000<s.length then ([],(12,0))
 else match lexR s 0 with
  | .ok ts=>(ts,(0,0))
  | .error p=>([],(10,p))
def lexAV (s:List UInt8):AV:=.tup [toks (lexAll s).1,.agg [.int .i64 (lexAll s).2.1,.int .i64 (lexAll s).2.2]]
theorem jqq {b:UInt8} {r:List UInt8} (h:skipN (b::r)=0):blankB b=false∧slash2 (b::r)=false:=by
 rw [qwd] at h
 constructor
 ·cases hb:blankB b with
  | false=>rfl
  | true=>rw [hb] at h;simp at h
 ·cases hs:slash2 (b::r) with
  | false=>rfl
  | true=>
   rw [hs] at h
   split at h
   ·omega
   ·simp at h
theorem lexR_tok {b:UInt8} {r:List UInt8} (h:skipN (b::r)=0) (p:Nat):lexR (b::r) p=if firstN (b::r)=0 then .error p
  else (lexR ((b::r).drop (firstN (b::r))) (p+firstN (b::r))).map (⟨firstK (b::r),(b::r).take (firstN (b::r)),p⟩::·):=by
 obtain ⟨h1,h2⟩:=jqq h
 rw [lexR_cons,h1,h2]
 simp only [Bool.false_eq_true,if_false]
 split
 ·rfl
 ·rename_i hn
  have:(b::r).drop (firstN (b::r))=r.drop (firstN (b::r) - 1):=by
   generalize firstN (b::r)=n at *
   cases n with
   | zero=>exact absurd rfl hn
   | succ n=>rfl
  rw [this]
theorem jqr (b:UInt8) (r:List UInt8):qke (b::r)≤(b::r).length:=by
 unfold qke
 split
 ·rename_i h
  simp only [zaa,List.isPrefixOf_iff_prefix] at h
  rcases h with (h|h)|h <;> exact h.length_le
 ·simp only [xk]
  split <;> omega
theorem firstN_le (b:UInt8) (r:List UInt8):firstN (b::r)≤(b::r).length:=by
 unfold firstN
 simp only
 split
 ·exact jdm _ _
 ·split
  ·split
   ·omega
   ·exact jdm _ _
  ·exact jqr b r
def hasB (l:List UInt8) (c:Int):Bool:=l.any fun b=>(b.toNat:Int) == c
def digC (c:Int):Bool:=decide (48≤c) && decide (c≤57)
def letC (c:Int):Bool:=(decide (65≤c) && decide (c≤90)) || (decide (97≤c) && decide (c≤122))
def wordC (c:Int):Bool:=letC c || digC c || c == 95
def twoL (l:List UInt8):List UInt8:=if 2≤l.length then l.take 2 else []
theorem hasB_step {l:List UInt8} {k:Nat} (h:k<l.length) (c:Int):hasB (l.take (k+1)) c=(hasB (l.take k) c || qbc l (k:Int) == c):=by
 obtain ⟨b,h1,h2⟩:=drop_cons h
 rw [hasB,hasB,List.take_succ_eq_append_getElem h,List.any_append,h2]
 rw [zav h] at h1
 injection h1 with h1 _
 simp [h1]
theorem hasB_take {l:List UInt8} {k:Nat} {c:Int} (h:hasB (l.take k) c=true):hasB l c=true:=by
 simp only [hasB,List.any_eq_true] at h ⊢
 obtain ⟨b,h1,h2⟩:=h
 exact ⟨b,List.mem_of_mem_take h1,h2⟩
theorem qls {p:Nat→Prop} (h:∀ n,n<256→p n) (b:UInt8):p b.toNat:=h _ b.toNat_lt
theorem blank_has (b:UInt8):hasB [32,9,13,10] (b.toNat:Int)=blankB b:=by
 have:=qls (p:=fun n=>hasB [32,9,13,10] (n:Int)=(cls (n:Int) == 1)) (by decide +kernel) b
 simpa [blankB,qlr] using this
theorem letC_cls (b:UInt8):letC (b.toNat:Int)=decide (cls (b.toNat:Int)=2):=qls (p:=fun n=>letC (n:Int)=decide (cls (n:Int)=2)) (by decide +kernel) b
theorem digC_cls (b:UInt8):digC (b.toNat:Int)=decide (cls (b.toNat:Int)=3):=qls (p:=fun n=>digC (n:Int)=decide (cls (n:Int)=3)) (by decide +kernel) b
theorem has_signs (b:UInt8):hasB signs (b.toNat:Int)=decide (cls (b.toNat:Int)=5):=qls (p:=fun n=>hasB signs (n:Int)=decide (cls (n:Int)=5)) (by decide +kernel) b
theorem wordC_B (b:UInt8):wordC (b.toNat:Int)=wordB b:=by
 have:=qls (p:=fun n=>wordC (n:Int)=[2,3,4].any fun c=>cls (n:Int) == c) (by decide +kernel) b
 exact this
theorem digC_B (b:UInt8):digC (b.toNat:Int)=digB b:=by
 have:=qls (p:=fun n=>digC (n:Int)=[3].any fun c=>cls (n:Int) == c) (by decide +kernel) b
 exact this
theorem two_pre (x y:UInt8) (l:List UInt8):(twoL l == [x,y])=[x,y].isPrefixOf l:=by
 match l with
 | []=>rfl
 | [a]=>simp [twoL,List.isPrefixOf]
 | a::b::r=>simp [twoL,Bool.beq_comm (a:=x),Bool.beq_comm (a:=y)];grind
theorem spanN_step {p:UInt8→Bool} {l:List UInt8} {k:Nat} (h:k<l.length) (hp:p l[k]=true):spanN p (l.drop k)=1+spanN p (l.drop (k+1)):=by
 rw [zav h,spanN,zb hp]
theorem spanN_end {p:UInt8→Bool} {l:List UInt8} {k:Nat} (h:k<l.length) (hp:p l[k]=false):spanN p (l.drop k)=0:=by
 rw [zav h,spanN,za (by simp [hp])]
theorem spanN_out {p:UInt8→Bool} {l:List UInt8} {k:Nat} (h:l.length≤k):spanN p (l.drop k)=0:=by
 rw [List.drop_eq_nil_of_le h];rfl
theorem byteAt_get {l:List UInt8} {k:Nat} (h:k<l.length):qbc l (k:Int)=(l[k].toNat:Int):=by
 simp [qbc,List.getD,h]
theorem first_two {b:UInt8} {r:List UInt8} (h:[61,61].isPrefixOf (b::r)=true∨[38,38].isPrefixOf (b::r)=true∨[124,124].isPrefixOf (b::r)=true):firstN (b::r)=2∧firstK (b::r)=2:=by
 have hb:b=61∨b=38∨b=124:=by
  rcases h with h|h|h <;> simp at h
  ·exact .inl h.1.symm
  ·exact .inr (.inl h.1.symm)
  ·exact .inr (.inr h.1.symm)
 have hc:cls (b.toNat:Int)≠2∧cls (b.toNat:Int)≠3:=by rcases hb with rfl|rfl|rfl <;> decide +kernel
 simp only [firstN,firstK,za hc.1,za hc.2,jqo h,and_self]
theorem first_let {b:UInt8} {r:List UInt8} (h:cls (b.toNat:Int)=2):firstN (b::r)=spanN wordB (b::r)∧firstK (b::r)=0:=by
 simp only [firstN,firstK,zb h,and_self]
theorem first_dig {b:UInt8} {r:List UInt8} (h:cls (b.toNat:Int)=3):firstN (b::r)=(if 6<spanN digB (b::r) then 0 else spanN digB (b::r))∧firstK (b::r)=1:=by
 have h2:¬ cls (b.toNat:Int)=2:=by omega
 simp only [firstN,firstK,za h2,zb h,and_self]
theorem first_sig {b:UInt8} {r:List UInt8} (h1:[61,61].isPrefixOf (b::r)=false) (h2:[38,38].isPrefixOf (b::r)=false) (h3:[124,124].isPrefixOf (b::r)=false)
  (hl:¬ cls (b.toNat:Int)=2) (hd:¬ cls (b.toNat:Int)=3):firstN (b::r)=(if cls (b.toNat:Int)=5 then 1 else 0)∧firstK (b::r)=2:=by
 simp only [firstN,firstK,za hl,za hd,jqp h1 h2 h3,and_self]
theorem ne10 (b:UInt8):((b.toNat:Int) != 10)=(b != 10):=by
 rw [Bool.eq_iff_iff]
 simp only [bne_iff_ne,ne_eq]
 constructor
 ·intro h h2;exact h (by rw [h2];rfl)
 ·intro h h2;exact h (UInt8.toNat_inj.1 (by simpa using Int.ofNat.inj h2))
theorem lexR_slash {b:UInt8} {r:List UInt8} (h:slash2 (b::r)=true) (p:Nat):lexR (b::r) p=lexR ((b::r).drop (lineN (b::r))) (p+lineN (b::r))∧0<lineN (b::r):=by
 obtain ⟨r',hr'⟩:=jdn h
 injection hr' with hb hr'
 subst hb
 have h1:lineN (47::r)=lineN r+1:=by simp [lineN,spanN];omega
 rw [lexR_cons,jdo,za (by simp),zb h,h1,List.drop_succ_cons]
 refine ⟨?_,by omega⟩
 congr 1
 omega
theorem span_pos {p:UInt8→Bool} {b:UInt8} {r:List UInt8} (h:p b=true):0<spanN p (b::r):=by
 rw [spanN,zb h];omega
theorem let_word {b:UInt8} (h:cls (b.toNat:Int)=2):wordB b=true:=by simp [wordB,qlr,h]
theorem dig_dig {b:UInt8} (h:cls (b.toNat:Int)=3):digB b=true:=by simp [digB,qlr,h]
def keys:List (List UInt8):=[[99,104,97,110],[111,102],[108,111,115,115,121],[99,111,112,121,105,110,103],[118,97,114],[112,114,111,99],[115,97,102,101],[100,101,97,100,108,111,99,107],[115,101,110,100],[114,101,99,118],[105,100,108,101],[119,104,101,110],[99,104,111,111,115,101],[111,114],[105,102],[101,108,115,101],[119,104,105,108,101],[97,116,111,109,105,99],[115,107,105,112],[115,116,111,112],[108,101,110]]
end Lx
end Go.Proofs.YtikahnkkfkoglaaGreatDoor
end
