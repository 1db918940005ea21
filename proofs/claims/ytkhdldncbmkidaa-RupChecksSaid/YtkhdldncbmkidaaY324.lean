/- Some texts of the library, one behind the other. -/
import Derived.Test.YtkhdldncbmkidaaY3RuW7
import Derived.Test.YtkhdldncbmkidaaY34
import Derived.Test.YtkhdldncbmkidaaY32
set_option linter.unusedSimpArgs false
set_option linter.unusedVariables false
section
namespace Go.Proofs.Ytkhdldncbmkidaa
open List renaming getD_eq_getElem?_getD → zd
open Go Go.Sx Go.RowKit Go.Ru
set_option maxRecDepth 100000
set_option maxHeartbeats 8000000
theorem jip {l:List Int} {m q:Nat} (h:q=m) (j:Nat):LeL (appF l.length (encV l) q (fun _=>[.int .i8 0]) j) (encV (l++List.replicate m 0) j):=by
 subst h
 refine LeL.of_eq ?_
 unfold appF encV encL
 rw [qgg]
 split
 ·rfl
 ·rename_i h1
  have:l.getD j 0=0:=qdm (by omega)
  rw [this]
  split
  ·rfl
  ·rfl
theorem jiq {ws:List (List Nat)} {we:Nat→Nat} {m q:Nat} (j:Nat):LeL (if ws.length≤j then [.own 6 j 0 0] else appF ws.length (fun i=>[.own 6 i (we i) (ws.getD i []).length]) q (fun _=>[.nils]) j) [.own 6 j (if j<ws.length then we j else 0) ((ws++List.replicate m []).getD j []).length]:=by
 refine LeL.of_eq ?_
 rw [qgg]
 by_cases h:ws.length≤j
 ·have:ws.getD j []=[]:=qdm h
  rw [za h,ze (by omega),this];rfl
 ·rw [ze h,za (by omega)]
  unfold appF
  rw [za (by omega)]
theorem jir {ws:List (List Nat)} {we:Nat→Nat} {m:Nat} (j:Nat):(if j<ws.length then we j else 0)=(if j<ws.length then we j else 0)∧(if j<ws.length then (ws.getD j []).length else 0)=((ws++List.replicate m []).getD j []).length:=by
 rw [qgg]
 refine ⟨rfl,?_⟩
 split
 ·rfl
 ·have:ws.getD j []=[]:=qdm (by omega)
  rw [this];rfl
theorem jis {ws:List (List Nat)} {m:Nat} (i j:Nat):LeL (encN (ws.getD i []) j) (encN ((ws++List.replicate m []).getD i []) j):=by
 rw [qgg]
 exact LeL.refl _
theorem qxo (k:K) (hk:Sz k) (v:Nat) (hv:v≤100000) :
  Trip Try.prog 38 [.ptr 0 0,iv v] (stK k) (.tup []) (idx 0 (stK (k.grow v))) 11:=by
 have h1:=hk.vr
 have h2:=hk.v
 have h4:=hk.vw
 by_cases hg:k.val.length<2 * v+2
 ·refine zL {subs:=[22,31]} 300 Try.func38 (fun c0 rdb mpb=>?_)
  (repeat' ((conv=>whnf);first|refine zO ?_|refine Ob.auto ?_|(refine Ob.intro (by (first|exact ⟨by omega,by omega⟩|(simp only [zg];omega))) ?_)|(apply zB <;> intro hb <;> (try simp [-zd] at hb) <;> try (exfalso;omega))|refine Ob.intro ?_ ?_))
  have hm:(2 * (v:Int)+2 - k.val.length).toNat=2 * v+2 - k.val.length:=by omega
  refine OpG.cus (fun _=>rfl) 300 rfl (by kernel_rfl) (qvm (r:=7) (i:=0) (e:=0) (n:=k.val.length) (k:=2 * (v:Int)+2 - k.val.length) (tn:=3) (kn:=.i64) (kq:=.i64) (el:=62) (y:=.int .i8 0) (R:=⟨[],62,1,0,k.val.length,encV k.val⟩) (ob:=none) (fun _=>rfl) rfl (by rfl) (by rfl) (by rfl) (by rfl) (by kernel_rfl) trivial ⟨rfl,rfl⟩ rfl (by rfl) rfl (by rfl) rfl rfl (by omega) (by omega) (zr (zt _ (by omega:k.val.length+(2 * (v:Int)+2 - k.val.length).toNat≤1000001)) (by exact (by decide +kernel:1000001 * (tab Try.prog 62).bytes≤140737488355328)))) ?_
  (repeat' ((conv=>whnf);first|refine zO ?_|refine Ob.auto ?_|(refine Ob.intro (by (first|exact ⟨by omega,by omega⟩|(simp only [zg];omega))) ?_)|(apply zB <;> intro hb <;> (try simp [-zd] at hb) <;> try (exfalso;omega))|refine Ob.intro ?_ ?_))
  refine OpG.cus (fun _=>rfl) 300 rfl (by kernel_rfl) (qvm (r:=5) (i:=0) (e:=0) (n:=k.watch.length) (k:=2 * (v:Int)+2 - k.val.length) (tn:=3) (kn:=.i64) (kq:=.i64) (el:=23) (y:=.nils) (R:=⟨[6],23,1,0,k.watch.length,fun i=>[.own 6 i (k.we i) (k.watch.getD i []).length]⟩) (ob:=none) (fun _=>rfl) rfl (by rfl) (by rfl) (by rfl) (by rfl) (by kernel_rfl) trivial ⟨rfl,rfl⟩ rfl (by rfl) rfl (by rfl) rfl rfl (by omega) (by omega) (zr (zt _ (by omega:k.watch.length+(2 * (v:Int)+2 - k.val.length).toNat≤1000001)) (by exact (by decide +kernel:1000001 * (tab Try.prog 23).bytes≤140737488355328)))) ?_
  (repeat' ((conv=>whnf);first|refine zO ?_|refine Ob.auto ?_|(refine Ob.intro (by (first|exact ⟨by omega,by omega⟩|(simp only [zg];omega))) ?_)|(apply zB <;> intro hb <;> (try simp [-zd] at hb) <;> try (exfalso;omega))|refine Ob.intro ?_ ?_))
  obtain ⟨m,hmm⟩:∃ m,m=2 * v+2 - k.val.length:=⟨_,rfl⟩
  rw [← hmm] at hm
  obtain ⟨kG,hkG⟩:∃ kG:K,kG={ k with val:=k.val++List.replicate m 0,watch:=k.watch++List.replicate m [],we:=fun j=>if j<k.watch.length then k.we j else 0 }:=⟨_,rfl⟩
  refine MT.loop (MT.trans (qvn 5 6 (2 * (v:Int)+2 - k.val.length).toNat k.watch.length (by rfl) (by rfl) (by exact rfl) (by exact fun j hj1 hj2=>(ze (by omega)).trans (za hj2))) (MT.st kG ?_)) ?_
  ·rw [hkG]
   unfold stK boxK
   simp only [zi,zbn]
   repeat' (first|exact trivial|exact rfl|exact Le.refl _|exact SoLe.refl _|exact Le.of_eq (congrArg (fun e=>AV.own _ 0 0 (_+e)) hm)|exact congrArg (_ + ·) hm|exact fun j hj=>jip hm j|exact fun j hj=>jiq j|exact fun j hj=>jir j|exact fun i j hi hj=>jis i j|refine And.intro ?_ ?_)
  have hgr:k.grow v={ kG with rea:=k.rea++List.replicate (v+1 - k.rea.length) (-1) }:=by
   unfold K.grow
   rw [za hg,hkG,hmm]
  replace hgr:=Hid.in hgr
  have hGr:kG.rea=k.rea:=by rw [hkG]
  replace hkG:=Hid.in hkG
  ((conv=>whnf);refine qw (fun _=>rfl) 300 1 (fun _:Nat=>[]) (fun i=>idx 0 (stK { kG with rea:=k.rea++List.replicate i (-1) })) (fun i=>i≤v+1 - k.rea.length) (fun i=>v+1 - k.rea.length - i) (0) (zv _) qa (by
   rw [show ({ kG with rea:=k.rea++List.replicate 0 (-1) }:K)=kG by rw [List.replicate_zero,zas,← hGr]]
   (repeat' (first|exact trivial|exact rfl|exact Le.refl _|exact SoLe.refl _|refine And.intro ?_ ?_))) (fun _=>rfl) (by kernel_rfl) ?_;(conv=>whnf))
  intro i hi
  have hli:(k.rea++List.replicate i (-1:Int)).length=k.rea.length+i:=by rw [zi,zbn]
  have hsn:k.rea++List.replicate (i+1) (-1:Int)=(k.rea++List.replicate i (-1))++[-1]:=by rw [List.replicate_succ',xe]
  obtain ⟨kI,hkI⟩:∃ kI:K,kI={ kG with rea:=k.rea++List.replicate i (-1) }:=⟨_,rfl⟩
  have hlI:kI.rea.length=k.rea.length+i:=by rw [hkI];exact hli
  rw [← hkI]
  replace hsn:=Hid.in hsn
  replace hkI:=Hid.in hkI
  (repeat' ((conv=>whnf);first|refine zO ?_|refine Ob.auto ?_|(refine Ob.intro (by (first|exact ⟨by omega,by omega⟩|(simp only [zg];omega))) ?_)|(apply zB <;> intro hb <;> (try simp [-zd] at hb) <;> try (exfalso;omega))|refine Ob.intro ?_ ?_))
  ·have hst:({ kG with rea:=k.rea++List.replicate (i+1) (-1) }:K)={ kI with rea:=kI.rea++[-1] }:=by rw [hkI.out,hsn.out]
   ((conv=>whnf);refine ⟨i+1,by omega,⟨(by (repeat' (first|exact trivial|exact rfl|exact Le.refl _|exact SoLe.refl _|refine And.intro ?_ ?_))),(by
    rw [hst]
    unfold stK boxK
    simp only [zi,xh,zaf,zw]
    repeat' (first|exact trivial|exact rfl|exact Le.refl _|exact SoLe.refl _|exact app1 (enc:=fun n:Int=>[iv n]) rfl|refine And.intro ?_ ?_))⟩,⟨qa,qa⟩,?_⟩;(first|omega|(dsimp only;omega)|skip))
  ·have hii:i=v+1 - k.rea.length:=by omega
   have hfin:k.grow v=kI:=by rw [hgr.out,hkI.out,hii]
   rw [hfin]
   refine ⟨Le.refl _,?_⟩
   (unfold stK boxK;repeat' (first|exact trivial|exact rfl|exact Le.refl _|exact SoLe.refl _|exact fun _ _=>LeL.refl _|exact fun _ _ _ _=>LeL.refl _|refine And.intro ?_ ?_))
 ·have hfin:k.grow v=k:=by unfold K.grow;rw [ze hg]
  rw [hfin]
  refine zL {subs:=[22,31]} 300 Try.func38 (fun c0 rdb mpb=>?_)
  (repeat' ((conv=>whnf);first|refine zO ?_|refine Ob.auto ?_|(refine Ob.intro (by (first|exact ⟨by omega,by omega⟩|(simp only [zg];omega))) ?_)|(apply zB <;> intro hb <;> (try simp [-zd] at hb) <;> try (exfalso;omega))|refine Ob.intro ?_ ?_))
  refine ⟨Le.refl _,?_⟩
  (unfold stK boxK;repeat' (first|exact trivial|exact rfl|exact Le.refl _|exact SoLe.refl _|exact fun _ _=>LeL.refl _|exact fun _ _ _ _=>LeL.refl _|refine And.intro ?_ ?_))
end Go.Proofs.Ytkhdldncbmkidaa
end
section
namespace Go.Proofs.Ytkhdldncbmkidaa
open List renaming getD_eq_getElem?_getD → zd
open Go Go.Sx Go.RowKit Go.St Go.Cl
set_option maxRecDepth 100000
set_option maxHeartbeats 4000000
theorem jit  (l:List (Int)) (hl:l.length≤1000000):Con Try.prog 55 [ints l,.fn 59 []] (iv (idx (fun x=>!litB x) l)):=by
 refine zK {} 300 Try.func55 (fun c0 rdb=>?_)
 (repeat' ((conv=>whnf);first|refine zA ?_|refine zO ?_|refine Ob.auto ?_|refine zD 300 ?_|(apply zB <;> intro hb <;> (try simp [-zd] at hb) <;> try (exfalso;omega))|refine Ob.intro ?_ ?_))
 ((conv=>whnf);refine qw (fun _=>rfl) 300 1 (fun i:Nat=>[(8,iv i)]) (fun _=>[]) (fun i=>i≤l.length∧∀ j,j<i→(fun x=>!litB x) (l.getD j 0)=false) (fun i=>l.length - i) (0) (⟨by omega,fun j hj=>absurd hj (zo j)⟩) qa qa (fun _=>rfl) (by kernel_rfl) ?_;(conv=>whnf))
 intro i hi
 by_cases hil:i<l.length
 ·have hc:=jfv (l.getD i 0)
  (repeat' ((conv=>whnf);first|refine zA ?_|refine zO ?_|refine Ob.auto ?_|refine zC 300 (hc) ?_|refine zG 300 (fun hg=>hc) ?_|(refine CallY.con (hc) (by rfl) leA ?_)|(refine CallZ.con (fun hg=>hc) qf (by rfl) ?_)|(refine qg (fun _=>rfl) 300 (hc) qc (by (repeat' (first|exact trivial|exact Le.refl _|(refine And.intro ?_ ?_))) <;> fail) (by rfl) (by kernel_rfl) ?_)|(refine qi (fun _=>rfl) 300 (fun hg=>hc) (fun hg=>qc) (fun hg=>(by (repeat' (first|exact trivial|exact Le.refl _|exact Le.cnd hg|(refine And.intro ?_ ?_))) <;> fail)) (by rfl) (by kernel_rfl) ?_)|refine zD 300 ?_|(apply zB <;> intro hb <;> (try simp [-zd] at hb) <;> try (exfalso;omega))|refine Ob.intro ?_ ?_))
  ·refine Le.of_eq (congrArg (AV.int _) ?_)
   exact (quv _ l 0 i (by omega) (by simp [-zd,hb]) hi.2).symm
  ·((conv=>whnf);refine ⟨i+1,⟨by omega,qea hi.2 (by first|(simp [-zd,hb];done)|(simp [-zd,];exact hb))⟩,⟨qa,qa⟩,⟨qa,qa⟩,?_⟩;(first|omega|(dsimp only;omega)|skip))
 ·(repeat' ((conv=>whnf);first|refine zA ?_|refine zO ?_|refine Ob.auto ?_|refine zD 300 ?_|(apply zB <;> intro hb <;> (try simp [-zd] at hb) <;> try (exfalso;omega))|refine Ob.intro ?_ ?_))
  refine Le.of_eq (congrArg (AV.int _) ?_)
  exact (quw _ l 0 (fun j hj=>hi.2 j (by omega))).symm
theorem jiu  (l:List (Int)) (hl:l.length≤1000000):Con Try.prog 32 [ints l,.fn 59 []] (.bool (l.any fun x=>!litB x)):=by
 have hc:=jit  l hl
 refine zK {} 300 Try.func32 (fun c0 rdb=>?_)
 (repeat' ((conv=>whnf);first|refine zA ?_|refine zO ?_|refine Ob.auto ?_|refine zC 300 (hc) ?_|refine zG 300 (fun hg=>hc) ?_|(refine CallY.con (hc) (by rfl) leA ?_)|(refine CallZ.con (fun hg=>hc) qf (by rfl) ?_)|(refine qg (fun _=>rfl) 300 (hc) qc (by (repeat' (first|exact trivial|exact Le.refl _|(refine And.intro ?_ ?_))) <;> fail) (by rfl) (by kernel_rfl) ?_)|(refine qi (fun _=>rfl) 300 (fun hg=>hc) (fun hg=>qc) (fun hg=>(by (repeat' (first|exact trivial|exact Le.refl _|exact Le.cnd hg|(refine And.intro ?_ ?_))) <;> fail)) (by rfl) (by kernel_rfl) ?_)|refine zD 300 ?_|(apply zB <;> intro hb <;> (try simp [-zd] at hb) <;> try (exfalso;omega))|refine Ob.intro ?_ ?_))
 refine Le.of_eq (congrArg AV.bool ?_)
 exact qvb _ l
theorem qnc (c:List Int) (hl:c.length≤1000000):Con Try.prog 37 [ints c] (.bool (rightB c)):=by
 have hc:=jiu c hl
 refine zK {} 300 Try.func37 (fun c0 rdb=>?_)
 (repeat' ((conv=>whnf);first|refine zA ?_|refine zO ?_|refine Ob.auto ?_|refine zC 300 (hc) ?_|refine zG 300 (fun hg=>hc) ?_|(refine CallY.con (hc) (by rfl) leA ?_)|(refine CallZ.con (fun hg=>hc) qf (by rfl) ?_)|(refine qg (fun _=>rfl) 300 (hc) qc (by (repeat' (first|exact trivial|exact Le.refl _|(refine And.intro ?_ ?_))) <;> fail) (by rfl) (by kernel_rfl) ?_)|(refine qi (fun _=>rfl) 300 (fun hg=>hc) (fun hg=>qc) (fun hg=>(by (repeat' (first|exact trivial|exact Le.refl _|exact Le.cnd hg|(refine And.intro ?_ ?_))) <;> fail)) (by rfl) (by kernel_rfl) ?_)|refine zD 300 ?_|(apply zB <;> intro hb <;> (try simp [-zd] at hb) <;> try (exfalso;omega))|refine Ob.intro ?_ ?_))
 refine Le.of_eq (congrArg AV.bool ?_)
 unfold rightB
 rw [jft]
end Go.Proofs.Ytkhdldncbmkidaa
end
