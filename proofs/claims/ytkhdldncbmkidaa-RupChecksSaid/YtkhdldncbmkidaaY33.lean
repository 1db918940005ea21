/- Some texts of the library, one behind the other. -/
import Derived.Test.YtkhdldncbmkidaaY31
import Derived.Test.YtkhdldncbmkidaaY32
import Derived.IntWalk
import Derived.Test.YtkhdldncbmkidaaRows
import Derived.ProofKit
import Derived.Lib.SlicesCompact
import Derived.Sort.Statements
set_option linter.unusedSimpArgs false
set_option linter.unusedVariables false
section
namespace Go.Sx
open Go Go.RowKit
abbrev iv (n:Int):AV:=.int .i64 n
def ints (l:List Int):AV:=slcL (fun n=>[iv n]) 0 1 l
def strs (l:List (List UInt8)):AV:=slcL (fun s=>[.str s]) [] 1 l
def qlp (l:List Bool):AV:=slcL (fun b=>[.bool b]) false 1 l
structure Nd where
 kind:Int
 words:List (List UInt8):=[]
 nums:List Int:=[]
 kids:List Int:=[]
 at_:Int
def Nd.cells (n:Nd):List AV:=[iv n.kind,strs n.words,ints n.nums,ints n.kids,iv n.at_]
def nd0:Nd:=⟨0,[],[],[],0⟩
def treeV (l:List Nd):AV:=slcL Nd.cells nd0 5 l
structure Ch where
 name:List UInt8
 room:Int
 width:Int
 lossy:Bool
 copying:Bool
def Ch.cells (c:Ch):List AV:=[.str c.name,iv c.room,iv c.width,.bool c.lossy,.bool c.copying]
def ch0:Ch:=⟨[],0,0,false,false⟩
structure Vr where
 name:List UInt8
 width:Int
 value:Int
def Vr.cells (v:Vr):List AV:=[.str v.name,iv v.width,iv v.value]
def vr0:Vr:=⟨[],0,0⟩
structure Ed where
 frm:Int
 to:Int
 act:Int
 expr:Int:=-1
 var:Int:=-1
 chn:Int:=-1
 keep:Bool:=false
 node:Int
def Ed.cells (e:Ed):List AV:=[iv e.frm,iv e.to,iv e.act,iv e.expr,iv e.var,iv e.chn,.bool e.keep,iv e.node]
def ed0:Ed:=⟨0,0,0,0,0,0,false,0⟩
structure Pr where
 name:List UInt8
 copy:Int
 locals:List Int:=[]
 places:Int
 rest:List Bool
 edges:List Ed
 names:List (List UInt8):=[]
 vars:List Int:=[]
def Pr.cells (p:Pr):List AV:=[.str p.name,iv p.copy,ints p.locals,iv p.places,qlp p.rest,slcL Ed.cells ed0 8 p.edges,strs p.names,ints p.vars]
def pr0:Pr:=⟨[],0,[],0,[],[],[],[]⟩
structure Md where
 tree:List Nd
 globals:Int:=0
 chans:List Ch:=[]
 vars:List Vr:=[]
 procs:List Pr:=[]
 safe:List Int:=[]
 dead:Bool:=false
def Md.cells (m:Md):List AV:=[treeV m.tree,iv m.globals,slcL Ch.cells ch0 5 m.chans,slcL Vr.cells vr0 3 m.vars,slcL Pr.cells pr0 8 m.procs,ints m.safe,.bool m.dead]
structure Stt where
 at_:List Int
 vars:List Int
 chans:List (List Int)
 holder:Int
def Stt.cells (s:Stt):List AV:=[ints s.at_,ints s.vars,slcL (fun l=>[ints l]) [] 1 s.chans,iv s.holder]
end Go.Sx
end
section
namespace Go.St
open Go Go.Sx
def wid (w:Int):Nat:=(min (max w 1) 16).toNat
def trim (n w:Int):Int:=if n % 2 ^ wid w≥2 ^ (wid w - 1) then n % 2 ^ wid w - 2 ^ wid w else n % 2 ^ wid w
def jfj (op a b:Int):Int × Bool:=
 if op=0 then (if (a != 0 || b != 0) then 1 else 0,true) else if op=1 then (if (a != 0 && b != 0) then 1 else 0,true)
 else if op=2 then (if a == b then 1 else 0,true) else if op=3 then (if decide (a<b) then 1 else 0,true)
 else if op=4 then (trim (a+b) 8,true) else if op=5 then (trim (a - b) 8,true) else if op=6 then (trim (a * b) 8,true)
 else if b=0 then (0,false) else if op=7 then (trim (a.tdiv b) 8,true) else (trim (a.tmod b) 8,true)
end Go.St
end
section
namespace Go.St
open List renaming getD_eq_getElem?_getD → zd
open Go Go.Sx
theorem qdc {α:Type} (l:List α) (i:Nat) (d:α) (h:i<l.length):l.getD i d∈l:=by
 rw [zd,zb h];exact zau h
theorem qea {p:Nat→Prop} {i:Nat} (h:∀ j,j<i→p j) (hi:p i):∀ j,j<i+1→p j:=fun j hj=>by
 by_cases e:j=i
 ·exact e ▸ hi
 ·exact h j (by omega)
def idx {α:Type} (p:α→Bool) (l:List α):Int:=match l.findIdx? p with|some i=>i|none=>-1
theorem quv {α:Type} (p:α→Bool) (l:List α) (d:α) (i:Nat) (hi:i<l.length) (hp:p (l.getD i d)=true) (hb:∀ j,j<i→p (l.getD j d)=false):idx p l=i:=by
 have:l.findIdx? p=some i:=by
  rw [List.findIdx?_eq_some_iff_getElem]
  refine ⟨hi,?_,fun j hj=>?_⟩
  ·rw [zd,zb hi] at hp;exact hp
  ·have h:=hb j hj
   rw [zd,zb (by omega)] at h
   simp only [Option.getD_some] at h
   rw [h];decide
 rw [idx,this]
theorem quw {α:Type} (p:α→Bool) (l:List α) (d:α) (hb:∀ j,j<l.length→p (l.getD j d)=false):idx p l=-1:=by
 have:l.findIdx? p=none:=by
  rw [List.findIdx?_eq_none_iff]
  intro x hx
  obtain ⟨j,hj,rfl⟩:=List.mem_iff_getElem.1 hx
  have h:=hb j hj
  rw [zd,zb hj] at h
  exact h
 rw [idx,this]
def varN (m:Md) (p:Int) (s:List UInt8):Int:=
 if 0≤p∧p<m.procs.length then
  (if idx (· == s) (m.procs.getD p.toNat pr0).names<0 then -1 else (m.procs.getD p.toNat pr0).vars.getD (idx (· == s) (m.procs.getD p.toNat pr0).names).toNat 0)
 else idx (fun v:Vr=>v.name == s) (m.vars.take m.globals.toNat)
def valN (m:Md) (p:Int) (s:Stt):Nat→Int→Int × Bool
 | 0,_=>(0,false)
 | n+1,k=>
  if (m.tree.getD k.toNat nd0).kind=17 then (trim ((m.tree.getD k.toNat nd0).nums.getD 0 0) 8,true)
  else if (m.tree.getD k.toNat nd0).kind=18 then
   (if varN m p ((m.tree.getD k.toNat nd0).words.getD 0 [])<0 then (0,false) else (s.vars.getD (varN m p ((m.tree.getD k.toNat nd0).words.getD 0 [])).toNat 0,true))
  else if (m.tree.getD k.toNat nd0).kind=19 then
   (if idx (fun c:Ch=>c.name == (m.tree.getD k.toNat nd0).words.getD 0 []) m.chans<0 then (0,false) else ((s.chans.getD (idx (fun c:Ch=>c.name == (m.tree.getD k.toNat nd0).words.getD 0 []) m.chans).toNat []).length,true))
  else if (m.tree.getD k.toNat nd0).kind=20 then
   (trim (0 - (valN m p s n ((m.tree.getD k.toNat nd0).kids.getD 0 0)).1) 8,(valN m p s n ((m.tree.getD k.toNat nd0).kids.getD 0 0)).2)
  else if (m.tree.getD k.toNat nd0).kind=21 then
   (if ((valN m p s n ((m.tree.getD k.toNat nd0).kids.getD 0 0)).2 && (valN m p s n ((m.tree.getD k.toNat nd0).kids.getD 0 0)).1 == 0) then 1 else 0,(valN m p s n ((m.tree.getD k.toNat nd0).kids.getD 0 0)).2)
  else if (m.tree.getD k.toNat nd0).kind=22 then
   (if (valN m p s n ((m.tree.getD k.toNat nd0).kids.getD 0 0)).2=true∧(valN m p s n ((m.tree.getD k.toNat nd0).kids.getD 1 0)).2=true then
    jfj ((m.tree.getD k.toNat nd0).nums.getD 0 0) (valN m p s n ((m.tree.getD k.toNat nd0).kids.getD 0 0)).1 (valN m p s n ((m.tree.getD k.toNat nd0).kids.getD 1 0)).1
   else (0,false))
  else (0,false)
def val (m:Md) (p:Int) (s:Stt) (k:Int):Int × Bool:=valN m p s m.tree.length k
theorem jfk {α:Type} {a b:List α} (d:α) (h:a.length=b.length) (h':∀ i,i<a.length→a.getD i d=b.getD i d):a=b:=by
 refine List.ext_getElem h fun i h1 h2=>?_
 have:=h' i h1
 rw [zd,zd,zb h1,zb h2] at this
 exact this
end Go.St
end
section
namespace Go.St
open Go Go.Sx

end Go.St
end
section
namespace Go.Proofs.Ytkhdldncbmkidaa
open Go Go.Sx Go.RowKit Go.St
set_option maxRecDepth 100000
section
variable {H:Type} {enc:TypeId × Value→H}
theorem rdr_ints:Rdr enc Try.prog 23 (fun ys=>∃ l:List Int,(l.length≤maxLen∧∀ n∈l,(Lit.int .i64 n).wf=true)∧ys=[ints l]):=
 qot (en:=fun n=>[iv n]) Try.underlying23 (by kernel_rfl) (by decide) (fun _=>rfl) (jbu Try.underlying3)
end
end Go.Proofs.Ytkhdldncbmkidaa
end
section
namespace Go.Cl
open List renaming getD_eq_getElem?_getD → zd
open Go Go.Sort
def absI (l:Int):Int:=if l<0 then -l else l
def cmp2 (a b:Int):Int:=if a<b then -1 else if b<a then 1 else 0
def cmpL (a b:Int):Int:=if cmp2 (absI a) (absI b)≠0 then cmp2 (absI a) (absI b) else cmp2 b a
def ltL (a b:Int):Prop:=absI a<absI b∨(absI a=absI b∧b<a)
theorem qlq (a b:Int):cmp2 a b<0↔a<b:=by
 unfold cmp2
 by_cases h:a<b
 ·rw [za h];exact ⟨fun _=>h,fun _=>by decide⟩
 ·rw [ze h]
  by_cases h':b<a
  ·rw [za h'];exact ⟨fun k=>absurd k (by decide),fun k=>absurd k h⟩
  ·rw [ze h'];exact ⟨fun k=>absurd k (by decide),fun k=>absurd k h⟩
theorem qlr (a b:Int):cmp2 a b=0↔a=b:=by
 unfold cmp2
 by_cases h:a<b
 ·rw [za h];exact ⟨fun k=>absurd k (by decide),fun k=>by omega⟩
 ·rw [ze h]
  by_cases h':b<a
  ·rw [za h'];exact ⟨fun k=>absurd k (by decide),fun k=>by omega⟩
  ·rw [ze h'];exact ⟨fun _=>by omega,fun _=>rfl⟩
theorem jfl (a b:Int):cmpL a b<0↔ltL a b:=by
 unfold cmpL ltL
 by_cases h:absI a=absI b
 ·rw [ze (fun k=>k ((qlr _ _).2 h)),qlq]
  omega
 ·rw [za (fun k=>h ((qlr _ _).1 k)),qlq]
  omega
theorem qhd (a:Int):¬ ltL a a:=by unfold ltL;omega
theorem qpn {a b c:Int} (h:ltL a b) (k:ltL b c):ltL a c:=by unfold ltL at *;omega
theorem qpo (a b:Int):ltL a b∨a=b∨ltL b a:=by unfold ltL;omega
def ltB (x y:Int):Bool:=decide (cmpL x y<0)
theorem qiw (a b:Int):ltB a b=true↔ltL a b:=by
 unfold ltB
 rw [xp]
 exact jfl a b
theorem qfz (a b:Int):ltB a b=false↔¬ ltL a b:=by
 rw [← qiw];simp
theorem swoL:SWO ltB where
 irrefl x:=(qfz x x).2 (qhd x)
 trans x y z h k:=(qiw x z).2 (qpn ((qiw x y).1 h) ((qiw y z).1 k))
 ntrans x y z h k:=(qfz x z).2 (by
  have h:=(qfz x y).1 h
  have k:=(qfz y z).1 k
  unfold ltL at *;omega)
def qax (c:List Int):List Int:=c.mergeSort fun x y=>!ltB y x
def normL (c:List Int):List Int:=Lib.compact (qax c)
theorem jfm (c:List Int):(qax c).Pairwise fun x y=>¬ ltL y x:=by
 have h:=List.pairwise_mergeSort (le:=fun x y=>!ltB y x) (fun a b c h k=>by
  simp only [xr] at h k ⊢
  exact swoL.ntrans c b a k h) (fun a b=>by
  simp only [Bool.or_eq_true,xr]
  rcases qpo a b with h|h|h
  ·left;rw [qfz];unfold ltL at *;omega
  ·left;subst h;exact swoL.irrefl a
  ·right;rw [qfz];unfold ltL at *;omega) c
 exact h.imp fun {a b} hab=>by
  simp only [xr] at hab
  exact (qfz b a).1 hab
theorem jfn (zs:List Int) (j:Nat) (hj:j<zs.length):Lib.keeps zs.toArray j=true↔(j=0∨zs.getD j 0≠zs.getD (j - 1) 0):=by
 have e:∀ i,i<zs.length→zs.toArray[i]! = zs.getD i 0:=fun i hi=>by
  rw [getElem!_pos _ _ (by simpa using hi),zd,zb hi];rfl
 unfold Lib.keeps
 rw [xp,e j hj,e (j - 1) (by omega)]
theorem qls (zs:List Int):Lib.compact zs=((List.range zs.length).filter fun j=>decide (j=0∨zs.getD j 0≠zs.getD (j - 1) 0)).map fun j=>zs.getD j 0:=by
 have e:∀ i,i<zs.length→zs.toArray[i]! = zs.getD i 0:=fun i hi=>by
  rw [getElem!_pos _ _ (by simpa using hi),zd,zb hi];rfl
 unfold Lib.compact Lib.compactUpTo
 have h1:(List.range zs.length).filter (Lib.keeps zs.toArray)=(List.range zs.length).filter fun j=>decide (j=0∨zs.getD j 0≠zs.getD (j - 1) 0):=
  List.filter_congr fun j hj=>by
   have hj:=List.mem_range.1 hj
   have:=jfn zs j hj
   by_cases h:Lib.keeps zs.toArray j=true
   ·rw [h,xn (this.1 h)]
   ·rw [Bool.eq_false_iff.2 h,xx (fun g=>h (this.2 g))]
 rw [h1]
 exact xj fun j hj=>e j (List.mem_range.1 (List.mem_filter.1 hj).1)
theorem qux {zs:List Int} (hs:zs.Pairwise fun x y=>¬ ltL y x) {i j:Nat} (hij:i≤j) (hj:j<zs.length):¬ ltL (zs.getD j 0) (zs.getD i 0):=by
 rcases Nat.lt_or_eq_of_le hij with h|h
 ·have:=List.pairwise_iff_getElem.1 hs i j (by omega) hj h
  rw [zd,zd,zb hj,zb (by omega:i<zs.length)]
  exact this
 ·subst h;exact qhd _
theorem jfo {zs:List Int} (hs:zs.Pairwise fun x y=>¬ ltL y x):(Lib.compact zs).Pairwise ltL:=by
 rw [qls,List.pairwise_map]
 have h0:(List.range zs.length).Pairwise (· < ·):=List.pairwise_lt_range
 have h1:=h0.filter fun j=>decide (j=0∨zs.getD j 0≠zs.getD (j - 1) 0)
 refine h1.imp_of_mem fun {i j} hi hj hij=>?_
 obtain ⟨hj1,hj2⟩:=List.mem_filter.1 hj
 have hjl:=List.mem_range.1 hj1
 rw [xp] at hj2
 have a1:=qux hs (i:=i) (j:=j - 1) (by omega) (by omega)
 have a2:=qux hs (i:=j - 1) (j:=j) (by omega) hjl
 have hne:zs.getD j 0≠zs.getD (j - 1) 0:=by
  rcases hj2 with h|h
  ·omega
  ·exact h
 rcases qpo (zs.getD (j - 1) 0) (zs.getD j 0) with h|h|h
 ·rcases qpo (zs.getD i 0) (zs.getD (j - 1) 0) with k|k|k
  ·exact qpn k h
  ·rw [k];exact h
  ·exact absurd k a1
 ·exact absurd h.symm hne
 ·exact absurd h a2
theorem jfp {zs:List Int} {x:Int}:x∈Lib.compact zs↔x∈zs:=by
 rw [qls]
 constructor
 ·intro h
  obtain ⟨j,hj,rfl⟩:=List.mem_map.1 h
  have hjl:=List.mem_range.1 (List.mem_filter.1 hj).1
  rw [zd,zb hjl]
  exact zau hjl
 ·intro h
  obtain ⟨i,hi,rfl⟩:=List.mem_iff_getElem.1 h
  have key:∀ i,i<zs.length→∃ j,j<zs.length∧(j=0∨zs.getD j 0≠zs.getD (j - 1) 0)∧zs.getD j 0=zs.getD i 0:=by
   intro i
   induction i with
   | zero=>intro h;exact ⟨0,h,.inl rfl,rfl⟩
   | succ i ih=>
    intro h
    by_cases e:zs.getD (i+1) 0=zs.getD i 0
    ·obtain ⟨j,h1,h2,h3⟩:=ih (by omega)
     exact ⟨j,h1,h2,h3.trans e.symm⟩
    ·exact ⟨i+1,h,.inr e,rfl⟩
  obtain ⟨j,h1,h2,h3⟩:=key i hi
  refine List.mem_map.2 ⟨j,List.mem_filter.2 ⟨List.mem_range.2 h1,xn h2⟩,?_⟩
  rw [h3,zd,zb hi]
  rfl
theorem qlt (c:List Int):(normL c).Pairwise ltL:=jfo (jfm c)
theorem norm_mem {c:List Int} {x:Int}:x∈normL c↔x∈c:=by
 unfold normL
 rw [jfp]
 unfold qax
 exact List.mem_mergeSort
theorem quy:∀ {a b:List Int},a.Pairwise ltL→b.Pairwise ltL→(∀ x,x∈a↔x∈b)→a=b
 | [],[],_,_,_=>rfl
 | [],y::b,_,_,h=>absurd ((h y).2 (xm ..)) (by simp)
 | x::a,[],_,_,h=>absurd ((h x).1 (xm ..)) (by simp)
 | x::a,y::b,ha,hb,h=>by
  rw [List.pairwise_cons] at ha hb
  have e:x=y:=by
   rcases List.mem_cons.1 ((h x).1 (xm ..)) with h1|h1
   ·exact h1
   ·rcases List.mem_cons.1 ((h y).2 (xm ..)) with h2|h2
    ·exact h2.symm
    ·exact absurd (qpn (ha.1 y h2) (hb.1 x h1)) (qhd x)
  subst e
  rw [quy ha.2 hb.2 fun z=>?_]
  constructor
  ·intro hz
   rcases List.mem_cons.1 ((h z).1 (xg _ hz)) with h1|h1
   ·subst h1;exact absurd (ha.1 z hz) (qhd z)
   ·exact h1
  ·intro hz
   rcases List.mem_cons.1 ((h z).2 (xg _ hz)) with h1|h1
   ·subst h1;exact absurd (hb.1 z hz) (qhd z)
   ·exact h1
theorem qey (c:List Int):(normL c).length≤c.length:=by
 unfold normL
 rw [qls,xq]
 refine zr (zbm ..) ?_
 simp [qax]
def qr (r:List Int):Bool:=(List.range r.length).any fun i=>decide (1≤i) && r.getD i 0 == -(r.getD (i - 1) 0)
theorem qga {l:List Int} {i:Nat} (h:i<l.length):l.getD i 0=l[i]:=by
 rw [zd,zb h];rfl
theorem quz {r:List Int} (hs:r.Pairwise ltL) {v:Int} (hv:0<v) (h1:v∈r) (h2:-v∈r):qr r=true:=by
 obtain ⟨i,hi,e1⟩:=List.mem_iff_getElem.1 h1
 obtain ⟨j,hj,e2⟩:=List.mem_iff_getElem.1 h2
 have hlt:=List.pairwise_iff_getElem.1 hs
 have hij:i<j:=by
  rcases Nat.lt_trichotomy i j with h|h|h
  ·exact h
  ·subst h;rw [e1] at e2;omega
  ·have:=hlt j i hj hi h
   rw [e1,e2] at this
   unfold ltL absI at this;omega
 have hi1:i+1=j:=by
  rcases Nat.lt_or_eq_of_le (show i+1≤j by omega) with h|h
  ·have a1:=hlt i (i+1) hi (by omega) (by omega)
   have a2:=hlt (i+1) j (by omega) hj h
   rw [e1] at a1
   rw [e2] at a2
   unfold ltL absI at a1 a2;omega
  ·exact h
 unfold qr
 rw [zat]
 refine ⟨i+1,List.mem_range.2 (by omega),?_⟩
 rw [zh,xp,beq_iff_eq]
 refine ⟨by omega,?_⟩
 rw [qga (by omega),show i+1 - 1=i by omega,qga hi,e1]
 subst hi1
 exact e2
theorem qix {c:List Int} (h0:∀ x∈c,x≠0):qr (normL c)=true↔∃ v,v∈c∧-v∈c:=by
 constructor
 ·intro h
  unfold qr at h
  rw [zat] at h
  obtain ⟨i,hi,h⟩:=h
  rw [zh,xp,beq_iff_eq] at h
  have hi:=List.mem_range.1 hi
  refine ⟨(normL c).getD (i - 1) 0,norm_mem.1 ?_,norm_mem.1 ?_⟩
  ·rw [qga (by omega)];exact zau _
  ·rw [← h.2,qga hi];exact zau _
 ·rintro ⟨v,h1,h2⟩
  have hv:=h0 v h1
  by_cases hp:0<v
  ·exact quz (qlt c) hp (norm_mem.2 h1) (norm_mem.2 h2)
  ·exact quz (qlt c) (v:=-v) (by omega) (norm_mem.2 h2) (norm_mem.2 (by rw [Int.neg_neg];exact h1))
def litB (l:Int):Bool:=l != 0 && decide (-100000≤l) && decide (l≤100000)
def rightB (c:List Int):Bool:=c.all litB
theorem jy (l:Int):litB l=true↔l≠0∧-100000≤l∧l≤100000:=by
 simp [litB,and_assoc]
def isTrue (m:List Bool) (l:Int):Bool:=(decide (absI l≤m.length) && m.getD (absI l - 1).toNat false) == decide (0<l)
def qbq (c:List Int) (m:List Bool):Bool:=c.any fun l=>litB l && isTrue m l
def allB (cs:List (List Int)) (m:List Bool):Bool:=cs.all fun c=>qbq c m
def jh (n:Int) (c:List Int):Int:=c.foldl (fun n l=>if litB l=true∧n<absI l then absI l else n) n
def qe (cs:List (List Int)):Int:=cs.foldl jh 0
end Go.Cl
end
