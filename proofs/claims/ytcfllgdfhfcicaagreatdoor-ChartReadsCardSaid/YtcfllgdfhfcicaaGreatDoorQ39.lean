/- Some texts of the library, one behind the other. -/
import Derived.Test.YtcfllgdfhfcicaaGreatDoorQ36
import Derived.Test.YtcfllgdfhfcicaaGreatDoorQ35
import Derived.Test.YtcfllgdfhfcicaaGreatDoorQ38
import Derived.Test.YtcfllgdfhfcicaaGreatDoorQ2
section
namespace Go.Proofs.YtcfllgdfhfcicaaGreatDoor
open Go Go.Sx Go.RowKit Go.St
set_option maxRecDepth 100000
theorem jve (l:List Nd) (item kind:Int) (out:List (List UInt8)) (i:Nat) (s:List UInt8) (h:inF out s=true):inF (qim l item kind out i) s=true:=by
 unfold qim
 split
 ·split
  ·split
   ·exact h
   ·unfold inF at h ⊢;rw [List.any_append,h];rfl
  ·exact h
 ·exact h
theorem jgj (l:List Nd) (item kind:Int) {j:Nat} (hk:(l.getD j nd0).kind=kind) (hi:itemF l j=j∨itemF l j=item):∀ i,j<i→inF (qew l item kind i) (qcv (l.getD j nd0))=true
 | 0,h=>absurd h (Nat.not_lt_zero j)
 | i+1,h=>by
  rw [qqn]
  by_cases hj:j<i
  ·exact jve _ _ _ _ _ _ (jgj l item kind hk hi i hj)
  ·obtain rfl:j=i:=by omega
   unfold qim
   rw [if_pos hk,if_pos (by simpa using hi)]
   split
   ·assumption
   ·unfold inF;rw [List.any_append];simp
theorem jvf {l:List Nd} (ht:Tree l) (hb:∀ i,i<l.length→badF l i=false) {k k':Int} (hk:k∈(l.getD 0 nd0).kids) (hk':k'∈(l.getD 0 nd0).kids) (hlt:k<k')
  (h1:qk l k=1∨qk l k=3) (h2:qk l k'=1∨qk l k'=3):qcv (l.getD k.toNat nd0)≠qcv (l.getD k'.toNat nd0):=by
 intro e
 have hlen:=ht.len
 have a:=ht.kids 0 (by omega) k hk
 have a':=ht.kids 0 (by omega) k' hk'
 have hit:=(ht.item (j:=k.toNat) (by omega) (by omega)).2.2 (by rw [Int.toNat_of_nonneg (by omega)];exact hk)
 have hbd:=hb k'.toNat (by omega)
 unfold qk at h1 h2
 unfold badF at hbd
 rw [if_pos (by omega)] at hbd
 simp only [Bool.or_eq_false_iff] at hbd
 have key:∀ kd,(l.getD k.toNat nd0).kind=kd→inF (qck l (k'.toNat:Nat) kd) (qcv (l.getD k'.toNat nd0))=true:=fun kd h=>by
  rw [← e]
  exact jgj l _ kd h (.inl hit) _ (by omega)
 rcases h1 with h1|h1
 ·have:=key 1 h1;rw [hbd.1.1] at this;cases this
 ·have:=key 3 h1;rw [hbd.2] at this;cases this
def CInv (l:List Nd) (pre:List Int) (cs:List Ch):Prop:=(∀ c∈cs,∃ k∈pre,qk l k=1∧c.name=qcv (l.getD k.toNat nd0))∧cs.Pairwise fun a b=>a.name≠b.name
theorem jgk {l:List Nd} (ht:Tree l) (hb:∀ i,i<l.length→badF l i=false):∀ (rest pre:List Int) (M:Md),(l.getD 0 nd0).kids=pre++rest→CInv l pre M.chans→CInv l (pre++rest) (rest.foldl (qey l) M).chans
 | [],pre,M,_,h=>by simpa using h
 | k::rest,pre,M,hks,h=>by
  have hlen:=ht.len
  have hs:=(ht.kidsLen (j:=0) (by omega)).2
  rw [List.foldl_cons,show pre++k::rest=(pre++[k])++rest by simp]
  refine jgk ht hb rest (pre++[k]) _ (by rw [hks];simp) ?_
  have old:CInv l (pre++[k]) M.chans:=⟨fun c hc=>by obtain ⟨q,h1,h2⟩:=h.1 c hc;exact ⟨q,List.mem_append_left _ h1,h2⟩,h.2⟩
  unfold qey
  simp only
  split
  ·rename_i e
   refine ⟨fun c hc=>?_,?_⟩
   ·rcases List.mem_append.1 hc with hc|hc
    ·exact old.1 c hc
    ·rw [List.mem_singleton.1 hc]
     exact ⟨k,List.mem_append_right _ (List.mem_singleton.2 rfl),e,rfl⟩
   ·refine List.pairwise_append.2 ⟨h.2,List.pairwise_singleton _ _,fun a ha b hb'=>?_⟩
    rw [List.mem_singleton.1 hb']
    obtain ⟨q,h1,h2,h3⟩:=h.1 a ha
    rw [h3]
    rw [hks] at hs
    exact jvf ht hb (by rw [hks];exact List.mem_append_left _ h1) (by rw [hks];simp) ((List.pairwise_append.1 hs).2.2 q h1 k (List.mem_cons_self ..)) (.inl h2) (.inl e)
  split
  ·exact old
  split
  ·exact old
  split
  ·exact old
  ·exact old
theorem jgl {α:Type} {R:α→α→Prop} {l:List α} (h:l.Pairwise R) (d:α) {i j:Nat} (hij:i<j) (hj:j<l.length):R (l.getD i d) (l.getD j d):=by
 rw [List.getD_eq_getElem?_getD,List.getElem?_eq_getElem (by omega),List.getD_eq_getElem?_getD,List.getElem?_eq_getElem hj]
 exact List.pairwise_iff_getElem.1 h i j (by omega) hj hij
theorem jvg {l:List Nd} (ht:Tree l) (hc:(qbq l).1=0):ChU (qeh l):=by
 have h:=(jgk ht (qno hc).1 (l.getD 0 nd0).kids [] { tree:=l } (by simp) ⟨fun c hc=>by simp at hc,List.Pairwise.nil⟩).2
 have h:(qeh l).chans.Pairwise fun a b=>a.name≠b.name:=h
 intro i j hi hj e
 rcases Nat.lt_trichotomy i j with hl|hl|hl
 ·exact absurd e (jgl h ch0 hl hj)
 ·exact hl
 ·exact absurd e.symm (jgl h ch0 hl hi)
end Go.Proofs.YtcfllgdfhfcicaaGreatDoor
end
section
namespace Go.Proofs.YtcfllgdfhfcicaaGreatDoor
open List renaming getD_eq_getElem?_getD → zd
open Go Go.Sx Go.RowKit Go.St
set_option maxRecDepth 100000
set_option maxHeartbeats 8000000
theorem jvh (l:List Nd) (hl:l.length≤9223372036854775807) (hz:∀ n∈l,NdSz n) (s:List UInt8):Con Tryz.prog 5 [jl l,.str s] (.bool true):=by
 have hm:=juf l hl hz
 cases hmd:(qcx l).2 with
 | false=>
  rw [hmd] at hm
  generalize (qcx l).1=M at hm
  refine zK {} 300 Tryz.func5 (fun c0 rdb=>?_)
  (repeat' ((conv=>whnf);first|refine Ob.auto ?_|refine zC 300 (qre) ?_|refine zC 300 (hm) ?_|(apply zB <;> intro hb <;> (try simp [-zd] at hb) <;> try (exfalso;omega))))
  all_goals exact Le.refl _
 | true=>
  rw [hmd] at hm
  have hM:=(qnp hmd).1
  have hn:NmOk (qcx l).1:=by
   rw [(qnp hmd).2.1]
   exact jey (jui hmd)
  have hU:ChU (qcx l).1:=by
   rw [(qnp hmd).2.1]
   exact jvg (qnp hmd).2.2.1 (qnp hmd).2.2.2
  generalize (qcx l).1=M at hm hM hn hU
  by_cases hs:s.length≤600
  ·have h4:=jut M hM hn hU s (by omega)
   have h5:=juz M hM hn s (by omega)
   cases hr:qir M s with
   | none=>
    rw [hr] at h4 h5
    simp only [Option.getD_none,Option.isSome_none] at h4 h5
    have h6:=jed [] [] (by simp)
    rw [decide_eq_true rfl] at h6
    refine zK {} 300 Tryz.func5 (fun c0 rdb=>?_)
    (repeat' ((conv=>whnf);first|refine Ob.auto ?_|refine zC 300 (qre) ?_|refine zC 300 (hm) ?_|refine zC 300 (h4) ?_|refine zC 300 (h5) ?_|refine zG 300 (fun hg=>h6) ?_|(apply zB <;> intro hb <;> (try simp [-zd] at hb) <;> try (exfalso;omega))))
    ((conv=>whnf);refine qm (fun _=>rfl) 300 1 (fun i:Nat=>[(11,.str []),(12,iv i)]) (fun _=>[]) (fun i=>i=0) (fun i=>i) (0) (rfl) qa qa (fun _=>rfl) (by kernel_rfl) ?_;(conv=>whnf))
    rintro i rfl
    (repeat' ((conv=>whnf);first|refine Ob.auto ?_|(apply zB <;> intro hb <;> (try simp [-zd] at hb) <;> try (exfalso;omega))))
    all_goals exact Le.refl _
   | some E=>
    rw [hr] at h4 h5
    have hE:=jvd hr
    have h6:=jed E E (by omega)
    rw [decide_eq_true rfl] at h6
    have h7:∀ i,i<E.length→Con Tryz.prog 18 [M.av,iv i,(E.getD i {}).av] (.str (qbb M i (E.getD i {}))):=fun i hi=>jtc M hM hn i (by omega) _ (hE.2.2 _ (qj E i {} hi))
    have hle:=qra hn hE.2.2 (by omega)
    simp only [Option.getD_some,Option.isSome_some] at h4 h5
    have hEs:=hE.1
    have hEl:=hE.2.1
    unfold qnx at hEs
    clear hr
    refine zK {} 300 Tryz.func5 (fun c0 rdb=>?_)
    (repeat' ((conv=>whnf);first|refine Ob.auto ?_|refine zC 300 (qre) ?_|refine zC 300 (hm) ?_|refine zC 300 (h4) ?_|refine zC 300 (h5) ?_|refine zG 300 (fun hg=>h6) ?_|(apply zB <;> intro hb <;> (try simp [-zd] at hb) <;> try (exfalso;omega))))
    ((conv=>whnf);refine qm (fun _=>rfl) 300 1 (fun i:Nat=>[(11,.str (qbk M E i)),(12,iv i)]) (fun _=>[]) (fun i=>i≤E.length) (fun i=>E.length - i) (0) (Nat.zero_le _) qa qa (fun _=>rfl) (by kernel_rfl) ?_;(conv=>whnf))
    intro i hi
    by_cases hie:i<E.length
    ·have hc:=h7 i hie
     have hl1:=hle i hi
     have hl2:=qqz hn (hE.2.2 _ (qj E i {} hie)) i (by omega)
     (repeat' ((conv=>whnf);first|refine zO ?_|refine Ob.auto ?_|refine zX (hc) ?_|(refine zR 300 ?_)|(apply zB <;> intro hb <;> (try simp [-zd] at hb) <;> try (exfalso;omega))))
     ((conv=>whnf);refine ⟨i+1,by omega,⟨⟨Le.of_eq (congrArg AV.str (qjw M E i).symm),Le.refl _,trivial⟩,trivial⟩,⟨qa,qa⟩,?_⟩;(first|omega|(dsimp only;omega)|skip))
    ·obtain rfl:i=E.length:=by omega
     rw [hEs]
     (repeat' ((conv=>whnf);first|refine Ob.auto ?_|(apply zB <;> intro hb <;> (try simp [-zd] at hb) <;> try (exfalso;omega))))
     all_goals exact Le.of_eq (congrArg AV.bool (by simp))
  ·refine zK {} 300 Tryz.func5 (fun c0 rdb=>?_)
   (repeat' ((conv=>whnf);first|refine Ob.auto ?_|refine zC 300 (qre) ?_|(apply zB <;> intro hb <;> (try simp [-zd] at hb) <;> try (exfalso;omega))))
   all_goals exact Le.refl _
end Go.Proofs.YtcfllgdfhfcicaaGreatDoor
end
