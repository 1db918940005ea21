/- Some texts of the library, one behind the other. -/
import Derived.Test.YtkhdldncbmkidaaY33
import Derived.Test.YtkhdldncbmkidaaY32
import Derived.Test.YtkhdldncbmkidaaChecked
set_option linter.unusedSimpArgs false
set_option linter.unusedVariables false
section
namespace Go.Cl
open Go
def qbr (last:Int) (v l:Int):Int:=if absI l > last∧(v=0∨absI l<v) then absI l else v
def qab (c:List Int) (last:Int):Int:=c.foldl (qbr last) 0
theorem qpp (last:Int) (h0:0≤last):∀ (c:List Int) (v:Int),(v=0∨last<v)→
  (c.foldl (qbr last) v=0∧v=0∧∀ x∈c,absI x≤last) ∨
  (last<c.foldl (qbr last) v∧(c.foldl (qbr last) v=v∨∃ x∈c,absI x=c.foldl (qbr last) v)∧(∀ x∈c,last<absI x→c.foldl (qbr last) v≤absI x)∧(v≠0→c.foldl (qbr last) v≤v))
 | [],v,hv=>by
  rcases hv with rfl|hv
  ·left;simp
  ·right;exact ⟨hv,.inl rfl,fun x hx=>by simp at hx,fun _=>Int.le_refl _⟩
 | l::c,v,hv=>by
  rw [List.foldl_cons]
  have hv':qbr last v l=0∨last<qbr last v l:=by
   unfold qbr
   split
   ·rename_i h;exact .inr h.1
   ·exact hv
  have e:qbr last v l=(if absI l > last∧(v=0∨absI l<v) then absI l else v):=rfl
  rcases qpp last h0 c (qbr last v l) hv' with ⟨h1,h2,h3⟩|⟨h1,h2,h3,h4⟩
  ·left
   rw [e] at h2
   split at h2
   ·rename_i h;omega
   ·rename_i h
    refine ⟨h1,h2,fun x hx=>?_⟩
    rcases List.mem_cons.1 hx with rfl|hx
    ·rcases Int.lt_or_le last (absI x) with k|k
     ·exact absurd ⟨k,.inl h2⟩ h
     ·exact k
    ·exact h3 x hx
  ·right
   generalize c.foldl (qbr last) (qbr last v l)=z at h1 h2 h3 h4 ⊢
   rw [e] at h2 h4
   refine ⟨h1,?_,fun x hx hl=>?_,fun hv0=>?_⟩
   ·rcases h2 with h2|⟨x,hx,h2⟩
    ·split at h2
     ·exact .inr ⟨l,xm ..,h2.symm⟩
     ·exact .inl h2
    ·exact .inr ⟨x,xg _ hx,h2⟩
   ·rcases List.mem_cons.1 hx with rfl|hx
    ·split at h4
     ·exact h4 (by omega)
     ·rename_i h
      have:v≠0∧v≤absI x:=by
       constructor
       ·intro h5;exact h ⟨hl,.inl h5⟩
       ·rcases Int.lt_or_le (absI x) v with k|k
        ·exact absurd ⟨hl,.inr k⟩ h
        ·exact k
      have:=h4 this.1
      omega
    ·exact h3 x hx hl
   ·split at h4
    ·rename_i h
     have:=h4 (by omega)
     omega
    ·exact h4 hv0
theorem jfq {c:List Int} {last:Int} (h0:0≤last) (h:qab c last=0):∀ x∈c,absI x≤last:=by
 rcases qpp last h0 c 0 (.inl rfl) with ⟨_,_,h3⟩|⟨h1,_⟩
 ·exact h3
 ·unfold qab at h;omega
theorem qva {c:List Int} {last:Int} (h0:0≤last) (h:qab c last≠0):last<qab c last∧(∃ x∈c,absI x=qab c last)∧∀ x∈c,last<absI x→qab c last≤absI x:=by
 rcases qpp last h0 c 0 (.inl rfl) with ⟨h1,_⟩|⟨h1,h2,h3,_⟩
 ·exact absurd h1 h
 ·refine ⟨h1,?_,h3⟩
  rcases h2 with h2|h2
  ·exact absurd h2 h
  ·exact h2
structure NInv (c:List Int) (last:Int) (out:List Int) (idle:Bool):Prop where
 lst:0≤last∧last≤100000
 sorted:out.Pairwise ltL
 mem:∀ x,x∈out↔x∈c∧absI x≤last
 idle:idle=true↔∃ v,v∈out∧-v∈out
theorem ninv0 {c:List Int} (hr:rightB c=true):NInv c 0 [] false:=by
 refine ⟨⟨by omega,by omega⟩,List.Pairwise.nil,fun x=>⟨fun h=>by simp at h,fun ⟨h1,h2⟩=>?_⟩,by simp⟩
 unfold rightB at hr
 have:=((jy x).1 (List.all_eq_true.1 hr x h1)).1
 unfold absI at h2;omega
def add1 (c:List Int) (v:Int) (out:List Int):List Int:=if v∈c then out++[v] else out
def ji (c:List Int) (v:Int) (out:List Int):List Int:=add1 c (-v) (add1 c v out)
def qbu (c:List Int) (v:Int) (idle:Bool):Bool:=idle || (decide (v∈c) && decide (-v∈c))
theorem qpq (c:List Int) (v:Int) (out:List Int) (x:Int):x∈add1 c v out↔x∈out∨(x=v∧v∈c):=by
 unfold add1
 split
 ·rename_i h;simp [h]
 ·rename_i h;simp [h]
theorem jfr {c:List Int} (hr:rightB c=true) {last:Int} {out:List Int} {idle:Bool} (h:NInv c last out idle) (hv:qab c last≠0) :
  NInv c (qab c last) (ji c (qab c last) out) (qbu c (qab c last) idle):=by
 obtain ⟨h1,⟨y,hy,hy2⟩,h3⟩:=qva h.lst.1 hv
 have hlit:∀ x∈c,litB x=true:=List.all_eq_true.1 hr
 have h0:=h.lst
 generalize qab c last=v at h1 hy2 h3 ⊢
 have hyl:=(jy y).1 (hlit y hy)
 have hv0:0<v:=by omega
 have hmem:∀ x,x∈ji c v out↔x∈c∧absI x≤v:=fun x=>by
  unfold ji
  rw [qpq,qpq,h.mem]
  constructor
  ·rintro ((⟨h4,h5⟩|⟨rfl,h4⟩)|⟨rfl,h4⟩)
   ·exact ⟨h4,by omega⟩
   ·exact ⟨h4,by unfold absI;omega⟩
   ·exact ⟨h4,by unfold absI;omega⟩
  ·rintro ⟨h4,h5⟩
   by_cases hl:last<absI x
   ·have h6:=h3 x h4 hl
    have:x=v∨x=-v:=by unfold absI at *;omega
    rcases this with rfl|rfl
    ·exact .inl (.inr ⟨rfl,h4⟩)
    ·exact .inr ⟨rfl,h4⟩
   ·exact .inl (.inl ⟨h4,by omega⟩)
 refine ⟨⟨by omega,by unfold absI at hy2;omega⟩,?_,hmem,?_⟩
 ·have s1:(add1 c v out).Pairwise ltL:=by
   unfold add1
   split
   ·rw [List.pairwise_append]
    refine ⟨h.sorted,List.pairwise_singleton ..,fun x hx z hz=>?_⟩
    simp only [zk] at hz
    subst hz
    have:=((h.mem x).1 hx).2
    left
    have:absI z=z:=by unfold absI;omega
    omega
   ·exact h.sorted
  unfold ji
  rw [add1]
  split
  ·rw [List.pairwise_append]
   refine ⟨s1,List.pairwise_singleton ..,fun x hx z hz=>?_⟩
   simp only [zk] at hz
   subst hz
   have ha:absI (-v)=v:=by unfold absI;omega
   rcases (qpq c v out x).1 hx with hx|⟨rfl,_⟩
   ·have:=((h.mem x).1 hx).2
    left;omega
   ·right
    exact ⟨by rw [ha];unfold absI;omega,by omega⟩
  ·exact s1
 ·unfold qbu
  rw [Bool.or_eq_true,zh,xp,xp,h.idle]
  constructor
  ·rintro (⟨z,h4,h5⟩|⟨h4,h5⟩)
   ·have h6:=(h.mem z).1 h4
    have h7:=(h.mem (-z)).1 h5
    exact ⟨z,(hmem z).2 ⟨h6.1,by omega⟩,(hmem (-z)).2 ⟨h7.1,by omega⟩⟩
   ·exact ⟨v,(hmem v).2 ⟨h4,by unfold absI;omega⟩,(hmem (-v)).2 ⟨h5,by unfold absI;omega⟩⟩
  ·rintro ⟨z,h4,h5⟩
   have h6:=(hmem z).1 h4
   have h7:=(hmem (-z)).1 h5
   by_cases hl:last<absI z
   ·have h8:=h3 z h6.1 hl
    have:z=v∨z=-v:=by unfold absI at *;omega
    rcases this with rfl|rfl
    ·exact .inr ⟨h6.1,h7.1⟩
    ·exact .inr ⟨by rw [Int.neg_neg] at h7;exact h7.1,h6.1⟩
   ·have:absI (-z)=absI z:=by unfold absI;omega
    exact .inl ⟨z,(h.mem z).2 ⟨h6.1,by omega⟩,(h.mem (-z)).2 ⟨h7.1,by omega⟩⟩
theorem jfs {c:List Int} (hr:rightB c=true) {last:Int} {out:List Int} {idle:Bool} (h:NInv c last out idle) (hv:qab c last=0) :
  out=normL c∧idle=qr (normL c):=by
 have h3:=jfq h.lst.1 hv
 have hlit:∀ x∈c,litB x=true:=List.all_eq_true.1 hr
 have hm:∀ x,x∈out↔x∈c:=fun x=>by
  rw [h.mem]
  exact ⟨fun k=>k.1,fun k=>⟨k,h3 x k⟩⟩
 have e:=quy h.sorted (qlt c) fun x=>(hm x).trans norm_mem.symm
 refine ⟨e,?_⟩
 have k:qr (normL c)=true↔idle=true:=by
  rw [h.idle,qix fun x hx=>((jy x).1 (hlit x hx)).1]
  constructor
  ·rintro ⟨v,h1,h2⟩;exact ⟨v,(hm v).2 h1,(hm (-v)).2 h2⟩
  ·rintro ⟨v,h1,h2⟩;exact ⟨v,(hm v).1 h1,(hm (-v)).1 h2⟩
 cases hi:idle
 ·cases hj:qr (normL c)
  ·rfl
  ·rw [k.1 hj] at hi;exact absurd hi (by decide)
 ·exact (k.2 hi).symm
end Go.Cl
end
section
namespace Go.Proofs.Ytkhdldncbmkidaa
open List renaming getD_eq_getElem?_getD → zd
open Go Go.Sx Go.RowKit Go.St Go.Cl
set_option maxRecDepth 100000
set_option maxHeartbeats 4000000
def qak (cs:List (List Int)):AV:=slcL (fun l=>[ints l]) [] 1 cs
theorem jft {α:Type} (q:α→Bool) (l:List α):(l.all q)=!(l.any fun x=>!q x):=by
 induction l with
 | nil=>rfl
 | cons x l ih=>rw [List.all_cons,List.any_cons,ih,Bool.not_or,Bool.not_not]
theorem qvb {α:Type} (q:α→Bool) (l:List α):decide (0≤Go.St.idx q l)=l.any q:=by
 unfold Go.St.idx
 cases h:l.findIdx? q with
 | none=>
  rw [List.findIdx?_eq_none_iff] at h
  have:l.any q=false:=by rw [zbo];intro h';rw [zat] at h';obtain ⟨x,hx,hq⟩:=h';rw [h x hx] at hq;cases hq
  rw [this];rfl
 | some i=>
  rw [List.findIdx?_eq_some_iff_getElem] at h
  obtain ⟨h1,h2,_⟩:=h
  have:l.any q=true:=by rw [zat];exact ⟨_,zau h1,h2⟩
  rw [this];exact xn (by simp)
theorem qgb (l:Int):Con Try.prog 57 [iv l] (.bool (litB l)):=by
 refine zK {} 300 Try.func57 (fun c0 rdb=>?_)
 (repeat' ((conv=>whnf);first|refine zA ?_|refine zO ?_|refine Ob.auto ?_|refine zD 300 ?_|(apply zB <;> intro hb <;> (try simp [-zd] at hb) <;> try (exfalso;omega))|refine Ob.intro ?_ ?_))
 exact Le.refl _
theorem jfu (l:Int) (h:litB l=true):Con Try.prog 48 [iv l] (iv (absI l)):=by
 have h:=(jy l).1 h
 refine zK {} 300 Try.func48 (fun c0 rdb=>?_)
 (repeat' ((conv=>whnf);first|refine zA ?_|refine zO ?_|refine Ob.auto ?_|refine zI ?_|refine zD 300 ?_|(apply zB <;> intro hb <;> (try simp [-zd] at hb) <;> try (exfalso;omega))|refine Ob.intro ?_ ?_))
 all_goals (refine Le.of_eq (congrArg (AV.int _) ?_);unfold absI;omega)
theorem jfv (l:Int):Con Try.prog 59 [iv l] (.bool (!litB l)):=by
 refine zK {} 300 Try.func59 (fun c0 rdb=>?_)
 (repeat' ((conv=>whnf);first|refine zA ?_|refine zO ?_|refine Ob.auto ?_|refine zC 300 (qgb l) ?_|refine zG 300 (fun hg=>qgb l) ?_|(refine CallY.con (qgb l) (by rfl) leA ?_)|(refine CallZ.con (fun hg=>qgb l) qf (by rfl) ?_)|(refine qg (fun _=>rfl) 300 (qgb l) qc (by (repeat' (first|exact trivial|exact Le.refl _|(refine And.intro ?_ ?_))) <;> fail) (by rfl) (by kernel_rfl) ?_)|(refine qi (fun _=>rfl) 300 (fun hg=>qgb l) (fun hg=>qc) (fun hg=>(by (repeat' (first|exact trivial|exact Le.refl _|exact Le.cnd hg|(refine And.intro ?_ ?_))) <;> fail)) (by rfl) (by kernel_rfl) ?_)|refine zD 300 ?_|(apply zB <;> intro hb <;> (try simp [-zd] at hb) <;> try (exfalso;omega))|refine Ob.intro ?_ ?_))
 exact Le.refl _
end Go.Proofs.Ytkhdldncbmkidaa
end
section
namespace Go.Proofs.Ytkhdldncbmkidaa
open Go Go.Sx Go.RowKit
set_option maxRecDepth 100000
section
variable {H:Type} {enc:TypeId × Value→H}
theorem jfw:Rdr enc Try.prog 22 (fun ys=>∃ l:List (List Int),(l.length≤maxLen∧∀ r∈l,r.length≤maxLen)∧ys=[qak l]):=
 qot (en:=fun l=>[ints l]) Try.underlying22 (by kernel_rfl) (by decide) (fun _=>rfl) (rdr_ints.mono fun ys ⟨l,h1,h⟩=>⟨l,h1.1,h⟩)
end
end Go.Proofs.Ytkhdldncbmkidaa
end
section
namespace Go.Ru
section
variable {α:Type} (neg:α→α)
inductive Der (cs:List (List α)) (so:List α):α→Prop
 | base {l:α} (h:l∈so):Der cs so l
 | unit {c:List α} {l:α} (hc:c∈cs) (hl:l∈c) (h:∀ m,m∈c→m≠l→Der cs so (neg m)):Der cs so l
def Bad (cs:List (List α)) (so:List α):Prop:=(∃ l,Der neg cs so l∧Der neg cs so (neg l))∨∃ c∈cs,∀ m∈c,Der neg cs so (neg m)
variable {neg}
theorem Der.mono {cs cs':List (List α)} {so so':List α} (hc:∀ c∈cs,∃ c'∈cs',∀ x,x∈c'↔x∈c) (hs:∀ l∈so,Der neg cs' so' l) {l:α} (h:Der neg cs so l):Der neg cs' so' l:=by
 induction h with
 | base h=>exact hs _ h
 | unit h1 h2 _ ih=>
  obtain ⟨c',h4,h5⟩:=hc _ h1
  exact .unit h4 ((h5 _).2 h2) fun m hm hne=>ih m ((h5 _).1 hm) hne
theorem Bad.mono {cs cs':List (List α)} {so so':List α} (hc:∀ c∈cs,∃ c'∈cs',∀ x,x∈c'↔x∈c) (hs:∀ l∈so,Der neg cs' so' l) (h:Bad neg cs so):Bad neg cs' so':=by
 rcases h with ⟨l,h1,h2⟩|⟨c,h1,h2⟩
 ·exact .inl ⟨l,h1.mono hc hs,h2.mono hc hs⟩
 ·obtain ⟨c',h4,h5⟩:=hc _ h1
  exact .inr ⟨c',h4,fun m hm=>(h2 m ((h5 _).1 hm)).mono hc hs⟩
theorem qvo (cs:List (List α)):∀ c∈cs,∃ c'∈cs,∀ x,x∈c'↔x∈c:=fun c h=>⟨c,h,fun _=>Iff.rfl⟩
theorem qvp {cs cs':List (List α)} (hs:∀ c∈cs,c∈cs'):∀ c∈cs,∃ c'∈cs',∀ x,x∈c'↔x∈c:=fun c h=>⟨c,hs c h,fun _=>Iff.rfl⟩
theorem Der.sub {cs cs':List (List α)} {so so':List α} (hc:∀ c∈cs,c∈cs') (hs:∀ l∈so,l∈so') {l:α} (h:Der neg cs so l):Der neg cs' so' l:=
 h.mono (qvp hc) fun l hl=>.base (hs l hl)
theorem Bad.sub {cs cs':List (List α)} {so so':List α} (hc:∀ c∈cs,c∈cs') (hs:∀ l∈so,l∈so') (h:Bad neg cs so):Bad neg cs' so':=
 h.mono (qvp hc) fun l hl=>.base (hs l hl)
theorem Bad.cut {cs:List (List α)} {so so':List α} (hs:∀ l∈so',Der neg cs so l) (h:Bad neg cs so'):Bad neg cs so:=h.mono (qvo cs) hs
structure Closed (neg:α→α) (cs:List (List α)) (T:α→Prop):Prop where
 cons:∀ l,T l→¬ T (neg l)
 ok:∀ c∈cs,(∃ l∈c,T l)∨∃ a∈c,∃ b∈c,a≠b∧¬ T (neg a)∧¬ T (neg b)
theorem Der.closed {cs:List (List α)} {so:List α} {T:α→Prop} (hT:Closed neg cs T) (hs:∀ l∈so,T l) {l:α} (h:Der neg cs so l):T l:=by
 induction h with
 | base h=>exact hs _ h
 | @unit c l h1 h2 _ ih=>
  rcases hT.ok c h1 with ⟨k,hk,hTk⟩|⟨a,ha,b,hb,hab,h3,h4⟩
  ·refine Classical.byContradiction fun hn=>?_
   have hne:k≠l:=fun e=>hn (e ▸ hTk)
   exact hT.cons k hTk (ih k hk hne)
  ·refine Classical.byContradiction fun hn=>?_
   by_cases hal:a=l
   ·exact h4 (ih b hb (fun e=>hab (hal.trans e.symm)))
   ·exact h3 (ih a ha hal)
theorem qvq {cs:List (List α)} {so:List α} {T:α→Prop} (hT:Closed neg cs T) (hs:∀ l∈so,T l):¬ Bad neg cs so:=by
 rintro (⟨l,h1,h2⟩|⟨c,h1,h2⟩)
 ·exact hT.cons l (h1.closed hT hs) (h2.closed hT hs)
 ·rcases hT.ok c h1 with ⟨k,hk,hTk⟩|⟨a,ha,b,hb,hab,h3,h4⟩
  ·exact hT.cons k hTk ((h2 k hk).closed hT hs)
  ·exact h3 ((h2 a ha).closed hT hs)
theorem Bad.drop (hnn:∀ l,neg (neg l)=l) {cs cs':List (List α)} {so:List α} (hne:∀ c∈cs,∀ x∈c,neg x≠x) (hc:∀ c∈cs,(∃ c'∈cs',∀ x,x∈c'↔x∈c)∨∃ l∈c,neg l∈c) (h:Bad neg cs so):Bad neg cs' so:=by
 refine Classical.byContradiction fun hn=>?_
 have key:∀ l,Der neg cs so l→Der neg cs' so l:=by
  intro l hl
  induction hl with
  | base h=>exact .base h
  | @unit c l h1 h2 _ ih=>
   rcases hc c h1 with ⟨c',h4,h5⟩|⟨k,h4,h5⟩
   ·exact .unit h4 ((h5 _).2 h2) fun m hm hml=>ih m ((h5 _).1 hm) hml
   ·by_cases hk:k=l
    ·subst hk
     have:=ih _ h5 (hne c h1 _ h2)
     rwa [hnn] at this
    ·by_cases hk2:neg k=l
     ·subst hk2
      exact ih k h4 hk
     ·have a1:=ih k h4 hk
      have a2:=ih _ h5 hk2
      exact (hn (.inl ⟨_,a1,a2⟩)).elim
 rcases h with ⟨l,h1,h2⟩|⟨c,h1,h2⟩
 ·exact hn (.inl ⟨l,key _ h1,key _ h2⟩)
 ·rcases hc c h1 with ⟨c',h4,h5⟩|⟨k,h4,h5⟩
  ·exact hn (.inr ⟨c',h4,fun m hm=>key _ (h2 m ((h5 _).1 hm))⟩)
  ·exact hn (.inl ⟨_,key _ (h2 k h4),key _ (h2 _ h5)⟩)
theorem Der.model {cs:List (List α)} {so:List α} {T:α→Prop} (hn:∀ c∈cs,∀ l∈c,T (neg l)→¬ T l) (hc:∀ c∈cs,∃ l∈c,T l) (hs:∀ l∈so,T l) {l:α} (h:Der neg cs so l):T l:=by
 induction h with
 | base h=>exact hs _ h
 | @unit c l h1 h2 _ ih=>
  obtain ⟨k,hk,hT⟩:=hc c h1
  by_cases hkl:k=l
  ·exact hkl ▸ hT
  ·exact absurd hT (hn c h1 k hk (ih k hk hkl))
theorem Bad.model {cs:List (List α)} {so:List α} {T:α→Prop} (hn:∀ l,T l→¬ T (neg l)) (hc:∀ c∈cs,∃ l∈c,T l) (hs:∀ l∈so,T l):¬ Bad neg cs so:=by
 have hn':∀ c∈cs,∀ l∈c,T (neg l)→¬ T l:=fun _ _ l _ h1 h2=>hn l h2 h1
 rintro (⟨l,h1,h2⟩|⟨c,h1,h2⟩)
 ·exact hn l (h1.model hn' hc hs) (h2.model hn' hc hs)
 ·obtain ⟨k,hk,hT⟩:=hc c h1
  exact hn k hT ((h2 k hk).model hn' hc hs)
end
theorem Der.map {α β:Type} {neg:α→α} {neg':β→β} (f:α→β) (hf:∀ a,f (neg a)=neg' (f a)) {cs:List (List α)} {so:List α} {l:α} (h:Der neg cs so l):Der neg' (cs.map (List.map f)) (so.map f) (f l):=by
 induction h with
 | base h=>exact .base (zz h)
 | @unit c l h1 h2 _ ih=>
  refine .unit (zz h1) (zz h2) fun m hm hne=>?_
  obtain ⟨k,hk,rfl⟩:=List.mem_map.1 hm
  rw [← hf]
  exact ih k hk fun e=>hne (e ▸ rfl)
theorem Der.unmap {α β:Type} {neg:α→α} {neg':β→β} (f:α→β) (hf:∀ a,f (neg a)=neg' (f a)) (hi:∀ a b,f a=f b→a=b) {cs:List (List α)} {so:List α} {l:β} (h:Der neg' (cs.map (List.map f)) (so.map f) l):∃ x,f x=l∧Der neg cs so x:=by
 induction h with
 | base h=>
  obtain ⟨x,hx,rfl⟩:=List.mem_map.1 h
  exact ⟨x,rfl,.base hx⟩
 | @unit c l h1 h2 _ ih=>
  obtain ⟨c0,hc,rfl⟩:=List.mem_map.1 h1
  obtain ⟨x,hx,rfl⟩:=List.mem_map.1 h2
  refine ⟨x,rfl,.unit hc hx fun m hm hne=>?_⟩
  obtain ⟨y,hy,hd⟩:=ih (f m) (zz hm) fun e=>hne (hi _ _ e)
  rw [← hf] at hy
  exact hi _ _ hy ▸ hd
theorem Bad.map {α β:Type} {neg:α→α} {neg':β→β} (f:α→β) (hf:∀ a,f (neg a)=neg' (f a)) (hi:∀ a b,f a=f b→a=b) {cs:List (List α)} {so:List α}:Bad neg' (cs.map (List.map f)) (so.map f)↔Bad neg cs so:=by
 constructor
 ·rintro (⟨l,h1,h2⟩|⟨c,h1,h2⟩)
  ·obtain ⟨x,rfl,hx⟩:=h1.unmap f hf hi
   obtain ⟨y,hy,hd⟩:=h2.unmap f hf hi
   rw [← hf] at hy
   exact .inl ⟨x,hx,hi _ _ hy ▸ hd⟩
  ·obtain ⟨c0,hc,rfl⟩:=List.mem_map.1 h1
   refine .inr ⟨c0,hc,fun m hm=>?_⟩
   obtain ⟨y,hy,hd⟩:=(h2 (f m) (zz hm)).unmap f hf hi
   rw [← hf] at hy
   exact hi _ _ hy ▸ hd
 ·rintro (⟨l,h1,h2⟩|⟨c,h1,h2⟩)
  ·exact .inl ⟨f l,h1.map f hf,hf l ▸ h2.map f hf⟩
  ·refine .inr ⟨c.map f,zz h1,fun m hm=>?_⟩
   obtain ⟨k,hk,rfl⟩:=List.mem_map.1 hm
   rw [← hf]
   exact (h2 k hk).map f hf
end Go.Ru
end
