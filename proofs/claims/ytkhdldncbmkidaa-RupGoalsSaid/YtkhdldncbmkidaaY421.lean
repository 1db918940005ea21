/- Some texts of the library, one behind the other. -/
import Derived.Test.YtkhdldncbmkidaaY4RuX
import Derived.Test.YtkhdldncbmkidaaY45
import Derived.Test.YtkhdldncbmkidaaY42
set_option linter.unusedSimpArgs false
set_option linter.unusedVariables false
section
namespace Go.Ru
variable {b h i x:Nat} {so list kept c:List Nat} {k k':K}
def K.drops (k:K) (n:Nat):K:=
 { k with gone:=k.gone.set n true,empty:=if (lit k n).length=0 then k.empty - 1 else k.empty,stale:=(k.stale || k.broken) || (lit k n).any fun x=>decide (k.rea.getD (x / 2) 0=(n:Int)) }
theorem jgi {n m:Nat} (hg:k.gone.length=k.lits.length) (hn:n<k.lits.length):act (k.drops n) m↔act k m∧m≠n:=by
 unfold act
 have e1:(k.drops n).lits=k.lits:=rfl
 have e2:(k.drops n).gone.getD m false=if m=n then true else k.gone.getD m false:=by
  show (k.gone.set n true).getD m false=_
  rw [jb]
  by_cases h:m=n
  ·rw [za ⟨h,by omega⟩,za h]
  ·rw [ze (fun h'=>h h'.1),ze h]
 have e3:lit (k.drops n) m=lit k m:=rfl
 rw [e1,e2,e3]
 by_cases h:m=n
 ·rw [za h]
  exact ⟨fun h'=>absurd h'.2.1 (by simp),fun h'=>absurd h h'.2⟩
 ·rw [ze h]
  exact ⟨fun h'=>⟨h',h⟩,fun h'=>h'.1⟩
theorem qwc (p q:Nat→Bool) (n:Nat) (hq:∀ m,q m=if m=n then false else p m):∀ l:List Nat,l.Nodup→(l.filter p).length=(l.filter q).length+if n∈l∧p n=true then 1 else 0
 | [],_=>rfl
 | a::l,hnd=>by
  obtain ⟨h1,h2⟩:=List.nodup_cons.1 hnd
  have ih:=qwc p q n hq l h2
  rw [List.filter_cons,List.filter_cons,hq a]
  by_cases e:a=n
  ·subst e
   rw [za rfl]
   have h3:¬ (a∈l∧p a=true):=fun h=>h1 h.1
   rw [ze h3] at ih
   cases hp:p a with
   | true=>simp [ih]
   | false=>simp [ih]
  ·rw [ze e]
   have h3:(n∈a::l∧p n=true)↔(n∈l∧p n=true):=by
    rw [List.mem_cons]
    exact ⟨fun h=>⟨h.1.resolve_left (Ne.symm e),h.2⟩,fun h=>⟨.inr h.1,h.2⟩⟩
   simp only [h3]
   cases hp:p a with
   | true=>simp [ih];omega
   | false=>simp [ih]
theorem jgj (hI:Inv k) {n:Nat} (hn:n<k.lits.length) (hl:k.gone.getD n false=false):Inv (k.drops n):=by
 have hg:=hI.s.p.c.g
 have ha:=fun m=>jgi (m:=m) hg hn
 have hs:=hI.s
 refine ⟨⟨⟨hs.p.v.lits rfl rfl rfl,⟨hs.p.c.c,hs.p.c.d,hs.p.c.m,hs.p.c.n,hs.p.c.v,hs.p.c.w,?_⟩,fun y m hm=>⟨(hs.p.w y m hm).b,(hs.p.w y m hm).l,(hs.p.w y m hm).w⟩,hs.p.nd,hs.p.hd⟩,fun m hm h2 w o hp=>hs.w2 m ((ha m).1 hm).1 h2 w o hp,hs.nt,hs.us,hs.un,fun m hm h1=>hs.ua m ((ha m).1 hm).1 h1,?_⟩,fun h1 h2=>?_,fun h1 h2=>?_⟩
 ·show (k.gone.set n true).length=_
  rw [xg,hg];rfl
 ·have hc:cnt0 k=cnt0 (k.drops n)+if (lit k n).length=0 then 1 else 0:=by
   have:=qwc (fun m=>!(k.gone.getD m false) && (lit k m).isEmpty) (fun m=>!((k.drops n).gone.getD m false) && (lit (k.drops n) m).isEmpty) n (fun m=>by
    have e2:(k.drops n).gone.getD m false=if m=n then true else k.gone.getD m false:=by
     show (k.gone.set n true).getD m false=_
     rw [jb]
     by_cases h:m=n
     ·rw [za ⟨h,by omega⟩,za h]
     ·rw [ze (fun h'=>h h'.1),ze h]
    rw [e2]
    split
    ·rfl
    ·rfl) (List.range k.lits.length) List.nodup_range
   unfold cnt0
   rw [show (k.drops n).lits.length=k.lits.length from rfl,this]
   congr 1
   rw [hl]
   have h3:(lit k n).length=0↔(lit k n).isEmpty=true:=by rw [List.isEmpty_iff];exact List.length_eq_zero_iff
   simp [hn,h3]
  show (if (lit k n).length=0 then k.empty - 1 else k.empty)=((cnt0 (k.drops n):Nat):Int)
  rw [hs.em,hc]
  split <;> simp
 ·have h1':((k.stale || k.broken) || (lit k n).any fun x=>decide (k.rea.getD (x / 2) 0=(n:Int)))=false:=h1
  rw [Bool.or_eq_false_iff,Bool.or_eq_false_iff,List.any_eq_false] at h1'
  obtain ⟨⟨s1,s2⟩,s3⟩:=h1'
  have hB:=hI.b s1 s2
  have hD:Done (k.drops n) k.trail.length:=fun m hm h2 w o hp ht=>hB.d m ((ha m).1 hm).1 h2 w o hp ht
  have hJ:J0 0 [] (k.drops n):=by
   refine ⟨⟨hs.p.v.lits rfl rfl rfl,⟨hs.p.c.c,hs.p.c.d,hs.p.c.m,hs.p.c.n,hs.p.c.v,hs.p.c.w,?_⟩,fun y m hm=>⟨(hs.p.w y m hm).b,(hs.p.w y m hm).l,(hs.p.w y m hm).w⟩,hs.p.nd,hs.p.hd⟩,xa _,fun m hm h2 w o hp=>hs.w2 m ((ha m).1 hm).1 h2 w o hp,fun m hm h2 w o hp ht=>(by cases ht),fun p hp=>?_,hs.nt⟩
   ·show (k.gone.set n true).length=_
    rw [xg,hg];rfl
   ·rw [ze (by omega)]
    rcases hB.j.rs p hp with h|⟨r,r1,r2,r3,r4⟩
    ·cases h
    ·refine .inr ⟨r,r1,(ha r).2 ⟨r2,fun e=>?_⟩,r3,r4⟩
     subst e
     exact s3 _ r3 (zam r1)
  exact ⟨hJ.raise hD,hD,hB.h,fun m hm h1=>hB.u m ((ha m).1 hm).1 h1⟩
 ·have h1':((k.stale || k.broken) || (lit k n).any fun x=>decide (k.rea.getD (x / 2) 0=(n:Int)))=false:=h1
  rw [Bool.or_eq_false_iff,Bool.or_eq_false_iff] at h1'
  have h2':k.broken=true:=h2
  rw [h1'.1.2] at h2'
  cases h2'
end Go.Ru
end
section
namespace Go.Ru
open Go.Cl
def negI (l:Int):Int:=-l
def qct (so:List Int):List Int→List Int→List Int
 | _,[]=>[]
 | pre,l::r=>if l ∉ so∧-l ∉ so∧l ∉ pre then l::qct so (pre++[l]) r else qct so (pre++[l]) r
theorem qeo {so:List Int} {x:Int}:∀ (r pre:List Int),x∈qct so pre r↔x∈r∧x ∉ so∧-x ∉ so∧x ∉ pre
 | [],pre=>by simp [qct]
 | l::r,pre=>by
  have ih:=qeo (so:=so) (x:=x) r (pre++[l])
  unfold qct
  by_cases h:l ∉ so∧-l ∉ so∧l ∉ pre
  ·rw [za h,List.mem_cons,ih,List.mem_cons,xq,zk]
   constructor
   ·rintro (rfl|⟨h1,h2,h3,h4⟩)
    ·exact ⟨.inl rfl,h⟩
    ·exact ⟨.inr h1,h2,h3,fun h5=>h4 (.inl h5)⟩
   ·rintro ⟨h1,h2,h3,h4⟩
    by_cases hx:x=l
    ·exact .inl hx
    ·exact .inr ⟨h1.resolve_left hx,h2,h3,fun h5=>h5.elim h4 hx⟩
  ·rw [ze h,ih,List.mem_cons,xq,zk]
   constructor
   ·rintro ⟨h1,h2,h3,h4⟩
    exact ⟨.inr h1,h2,h3,fun h5=>h4 (.inl h5)⟩
   ·rintro ⟨h1,h2,h3,h4⟩
    have hx:x≠l:=fun e=>h (e ▸ ⟨h2,h3,h4⟩)
    exact ⟨h1.resolve_left hx,h2,h3,fun h5=>h5.elim h4 hx⟩
theorem qpw {so:List Int}:∀ (r pre:List Int),(qct so pre r).Nodup
 | [],_=>zbc
 | l::r,pre=>by
  unfold qct
  split
  ·refine List.nodup_cons.2 ⟨fun h=>?_,qpw r _⟩
   exact ((qeo r _).1 h).2.2.2 (by simp)
  ·exact qpw r _
def qpx (so c:List Int):Bool:=!(c.any fun l=>decide (l∈so)) && decide ((qct so [] c).length≤1)
def qep:Nat→List (List Int)→List Int→Bool
 | 0,_,_=>false
 | f+1,cs,so=>
  if so.any (fun l=>decide (-l∈so)) then true
  else match cs.find? (qpx so) with
   | none=>false
   | some c=>match qct so [] c with
    | []=>true
    | l::_=>qep f cs (so++[l])
theorem qwd:∀ (f:Nat) (cs:List (List Int)) (so:List Int),qep f cs so=true→Bad negI cs so
 | 0,_,_,h=>by cases h
 | f+1,cs,so,h=>by
  unfold qep at h
  split at h
  ·rename_i h1
   obtain ⟨l,h2,h3⟩:=List.any_eq_true.1 h1
   exact .inl ⟨l,.base h2,.base (xx h3)⟩
  ·split at h
   ·cases h
   ·rename_i c hc
    have hmem:=List.mem_of_find?_eq_some hc
    have hu:=List.find?_some hc
    unfold qpx at hu
    rw [zh,xn,List.any_eq_false] at hu
    obtain ⟨h1,h2⟩:=hu
    have h2:=xx h2
    have h1:∀ x∈c,x ∉ so:=fun x hx hso=>h1 x hx (zam hso)
    split at h
    ·rename_i ho
     refine .inr ⟨c,hmem,fun m hm=>.base ?_⟩
     refine Classical.byContradiction fun hn=>?_
     have:=(qeo c []).2 ⟨hm,h1 m hm,hn,by simp⟩
     rw [ho] at this
     cases this
    ·rename_i l r ho
     have hr:r=[]:=by
      rw [ho] at h2
      simpa using h2
     subst hr
     have hlo:=(qeo (so:=so) (x:=l) c []).1 (by rw [ho];simp)
     refine (qwd f cs _ h).cut fun x hx=>?_
     rcases List.mem_append.1 hx with hx|hx
     ·exact .base hx
     ·rw [zk] at hx
      subst hx
      refine .unit hmem hlo.1 fun m hm hne=>.base ?_
      refine Classical.byContradiction fun hn=>?_
      have:=(qeo c []).2 ⟨hm,h1 m hm,hn,by simp⟩
      rw [ho,zk] at this
      exact hne this
def left (cs:List (List Int)) (so:List Int):Nat:=(cs.flatten.filter fun l=>decide (l ∉ so)).length
theorem jgk {cs:List (List Int)} {so:List Int} {l:Int} (h:l∈cs.flatten) (hn:l ∉ so):left cs (so++[l])<left cs so:=by
 unfold left
 have hle:∀ (xs:List Int),(xs.filter fun x=>decide (x ∉ so++[l])).length≤(xs.filter fun x=>decide (x ∉ so)).length:=by
  intro xs
  induction xs with
  | nil=>simp
  | cons x xs ih=>
   rw [List.filter_cons,List.filter_cons]
   by_cases h1:x∈so
   ·simp [h1];simpa using ih
   ·by_cases h2:x=l
    ·simp [h1,h2];simp at ih;rw [h2] at h1;simp [h1];omega
    ·simp [h1,h2];simpa using ih
 generalize cs.flatten=ys at h
 induction ys with
 | nil=>cases h
 | cons x xs ih=>
  have:=hle xs
  rw [List.filter_cons,List.filter_cons]
  rcases List.mem_cons.1 h with h|h
  ·subst h
   simp only [xq,zk,or_true,not_true_eq_false,decide_false,hn,not_false_eq_true,decide_true,if_true,xj]
   simp only [xq,zk] at this
   simp only [Bool.false_eq_true,if_false]
   omega
  ·have ih:=ih h
   by_cases h1:x∈so
   ·simp [h1];simpa using ih
   ·by_cases h2:x=l
    ·subst h2
     simp only [xq,zk,or_true,not_true_eq_false,decide_false,hn,not_false_eq_true,decide_true,if_true,xj]
     simp only [xq,zk] at this
     simp only [Bool.false_eq_true,if_false]
     omega
    ·simp only [xq,zk,h1,h2,or_self,not_false_eq_true,decide_true,if_true,xj]
     simp only [xq,zk] at ih
     omega
theorem qwe:∀ (f:Nat) (cs:List (List Int)) (so:List Int),left cs so<f→qep f cs so=false→¬ Bad negI cs so
 | 0,_,_,hf,_=>by omega
 | f+1,cs,so,hf,h=>by
  unfold qep at h
  split at h
  ·cases h
  ·rename_i h1
   have hcons:∀ l,l∈so→-l ∉ so:=fun l hl hn=>h1 (List.any_eq_true.2 ⟨l,hl,zam hn⟩)
   split at h
   ·rename_i hnone
    refine quv (T:=fun l=>l∈so) ⟨hcons,fun c hc=>?_⟩ (fun l hl=>hl)
    have hu:=List.find?_eq_none.1 hnone c hc
    by_cases hh:∃ l∈c,l∈so
    ·exact .inl hh
    ·right
     unfold qpx at hu
     have hany:(c.any fun l=>decide (l∈so))=false:=by
      rw [List.any_eq_false]
      intro x hx hso
      exact hh ⟨x,hx,xx hso⟩
     rw [hany,Bool.not_false,zbi] at hu
     have hlen:2≤(qct so [] c).length:=by
      simp only [xm] at hu
      omega
     cases ho:qct so [] c with
     | nil=>rw [ho] at hlen;simp at hlen
     | cons a r=>
      cases r with
      | nil=>rw [ho] at hlen;simp at hlen
      | cons b r=>
       have hnd:=qpw (so:=so) c []
       rw [ho,List.nodup_cons] at hnd
       have ha:=(qeo (so:=so) (x:=a) c []).1 (by rw [ho];simp)
       have hb:=(qeo (so:=so) (x:=b) c []).1 (by rw [ho];simp)
       exact ⟨a,ha.1,b,hb.1,fun e=>hnd.1 (e ▸ xu ..),ha.2.2.1,hb.2.2.1⟩
   ·rename_i c hc
    have hmem:=List.mem_of_find?_eq_some hc
    split at h
    ·cases h
    ·rename_i l r ho
     have hlo:=(qeo (so:=so) (x:=l) c []).1 (by rw [ho];simp)
     have hlt:=jgk (so:=so) (List.mem_flatten.2 ⟨c,hmem,hlo.1⟩) hlo.2.1
     have:=qwe f cs (so++[l]) (by omega) h
     exact fun hb=>this (hb.sub (fun _ h=>h) fun x hx=>xy _ hx)
theorem jgl {f:Nat} {cs:List (List Int)} {so:List Int} (hf:left cs so<f):qep f cs so=true↔Bad negI cs so:=by
 constructor
 ·exact qwd f cs so
 ·intro hb
  cases h:qep f cs so with
  | true=>rfl
  | false=>exact absurd hb (qwe f cs so hf h)
def qwf (cs:List (List Int)):Nat:=cs.flatten.length+1
theorem jgm (cs:List (List Int)) (so:List Int):left cs so<qwf cs:=Nat.lt_succ_of_le (zbg _ _)
def qiz (cs:List (List Int)) (so:List Int):Bool:=qep (qwf cs) cs so
theorem confR_iff {cs:List (List Int)} {so:List Int}:qiz cs so=true↔Bad negI cs so:=jgl (jgm cs so)
def negs (c:List Int):List Int:=c.map fun l=>-l
def qak (cs:List (List Int)) (c:List Int):Bool:=(cs.all rightB && rightB c) && qiz cs (negs c)
def qbo (a b:List Int):Bool:=(bif rightB a then normL a else []) == (bif rightB b then normL b else [])
def qbp (c:List Int):List (List Int)→Option Nat
 | []=>none
 | d::r=>match qbp c r with
  | some k=>some (k+1)
  | none=>if qbo d c then some 0 else none
structure Ln where
 del:Bool
 c:List Int
def qaf:List (List Int)→Nat→List Ln→Int × List (List Int)
 | th,_,[]=>(0,th)
 | th,i,⟨del,c⟩::r=>
  if rightB c then
   match del with
   | false=>if qak th c then qaf (th++[c]) (i+1) r else ((i:Int)+1,th)
   | true=>match qbp c th with
    | some k=>qaf (th.eraseIdx k) (i+1) r
    | none=>((i:Int)+1,th)
  else ((i:Int)+1,th)
def qgz (cs:List (List Int)) (proof:List Ln) (goal:List Int):Int:=
 if cs.all rightB && rightB goal then
  match qaf cs 0 proof with
  | (0,th)=>if th.any (fun d=>qbo d goal) || qak th goal then 0 else (proof.length:Int)+1
  | (n,_)=>n
 else -1
end Go.Ru
end
