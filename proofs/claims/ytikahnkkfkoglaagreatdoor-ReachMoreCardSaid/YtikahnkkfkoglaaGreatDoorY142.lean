/- Some texts of the library, one behind the other. -/
import Derived.Test.YtikahnkkfkoglaaGreatDoorY1Mk6
import Derived.Test.YtikahnkkfkoglaaGreatDoorY135
import Derived.Test.YtikahnkkfkoglaaGreatDoorY122
import Derived.Test.YtikahnkkfkoglaaGreatDoorY121
import Derived.Test.YtikahnkkfkoglaaGreatDoorY120
import Derived.Test.YtikahnkkfkoglaaGreatDoorY114
import Derived.Test.YtikahnkkfkoglaaGreatDoorY12
set_option linter.unusedSimpArgs false
set_option linter.unusedVariables false
section
namespace Go.Proofs.YtikahnkkfkoglaaGreatDoor
open Go Go.Sx Go.RowKit Go.St
set_option maxRecDepth 100000
set_option maxHeartbeats 8000000
def mdZ:Md:={ tree:=[] }
theorem jfv:Le (AV.agg [AV.nils,iv 0,AV.nils,AV.nils,AV.nils,AV.nils,AV.bool false]) mdZ.av:=
 Le.agg ⟨Le.nils _ _,Le.refl _,Le.nils _ _,Le.nils _ _,Le.nils _ _,Le.nils _ _,Le.refl _,trivial⟩
theorem jtr (l:List Nd) (ht:Tree l) (hc:(qbx l).1≠0):Con Tryz.prog 16 [jr l] (.tup [mdZ.av,.bool false]):=by
 refine zK {} 2000 Tryz.func16 (fun c0 rdb=>?_)
 (repeat' ((conv=>whnf);first|refine Ob.auto ?_|refine zC 2000 (jfn l ht) ?_|(apply zB <;> intro hb <;> (try simp [-List.getD_eq_getElem?_getD] at hb) <;> try (exfalso;omega))))
 exact Le.tup ⟨jfv,Le.refl _,trivial⟩
def qej (l:List Nd):Md × Bool:=if (qiw l l.length≤1500∧qfo l=true)∧(qbx l).1=0 then (qev l,true) else (mdZ,false)
theorem qsm {l:List Nd} (h:(qej l).2=true):ModOk (qej l).1∧(qej l).1=qev l∧Tree l∧(qbx l).1=0:=by
 unfold qej at h ⊢
 split
 ·rename_i e
  exact ⟨jcl (qnt e.1.2) e.2,rfl,qnt e.1.2,e.2⟩
 ·rename_i e
  rw [za e] at h;cases h
end Go.Proofs.YtikahnkkfkoglaaGreatDoor
end
section
namespace Go.Proofs.YtikahnkkfkoglaaGreatDoor
open Go Go.Sx Go.RowKit Go.St Pa
set_option maxRecDepth 100000
theorem qma:Con Tryz.prog 15 [.str qwg] (.tup [jr qit,flt 0 0]):=by
 have h:=jsz qwg (by decide)
 rw [jqt px16 (by decide)] at h
 exact h
theorem qmb:Con Tryz.prog 16 [jr qit] (.tup [model16.av,.bool true]):=by
 have h:=jfu qit (qnt jdr) jds
 rw [jdt] at h
 exact h
theorem mod16:ModOk model16:=jdt ▸ jcl (qnt jdr) jds
theorem qmc:Con Tryz.prog 9 [model16.av,iv 10] (.agg [iv 2,.bool true,.bool false,.nils]):=by
 have e1:(qbg model16 10).1.length=2:=congrArg (fun r:Nat × (Bool × Bool)=>r.1) ex16
 have e2:(qbg model16 10).2=(true,false):=congrArg (fun r:Nat × (Bool × Bool)=>r.2) ex16
 have h:=jpz model16 mod16 jqu 10 (by rw [e2])
 rw [e1,e2] at h
 exact h
theorem qfc:Con Tryz.prog 6 [] (.bool true):=by
 refine zK {} 300 Tryz.func6 (fun c0 rdb=>?_)
 (repeat' ((conv=>whnf);first|refine zA ?_|refine zO ?_|refine Ob.auto ?_|(refine Ob.intro (by (first|exact ⟨by decide,by decide⟩|exact fun _=>⟨by decide,by decide⟩)) ?_)|refine zC 300 (qma) ?_|refine zG 300 (fun hg=>qma) ?_|(refine CallY.con (qma) (by rfl) leA ?_)|(refine CallZ.con (fun hg=>qma) jn (by rfl) ?_)|refine zC 300 (qmb) ?_|refine zG 300 (fun hg=>qmb) ?_|(refine CallY.con (qmb) (by rfl) leA ?_)|(refine CallZ.con (fun hg=>qmb) jn (by rfl) ?_)|refine zC 300 (qmc) ?_|refine zG 300 (fun hg=>qmc) ?_|(refine CallY.con (qmc) (by rfl) leA ?_)|(refine CallZ.con (fun hg=>qmc) jn (by rfl) ?_)|(refine ql (fun _=>rfl) 300 (qma) qc (by (repeat' (first|exact trivial|exact Le.refl _|(refine And.intro ?_ ?_))) <;> fail) (by rfl) (by kernel_rfl) ?_)|(refine qw (fun _=>rfl) 300 (fun hg=>qma) (fun hg=>qc) (fun hg=>(by (repeat' (first|exact trivial|exact Le.refl _|exact Le.cnd hg|(refine And.intro ?_ ?_))) <;> fail)) (by rfl) (by kernel_rfl) ?_)|(refine ql (fun _=>rfl) 300 (qmb) qc (by (repeat' (first|exact trivial|exact Le.refl _|(refine And.intro ?_ ?_))) <;> fail) (by rfl) (by kernel_rfl) ?_)|(refine qw (fun _=>rfl) 300 (fun hg=>qmb) (fun hg=>qc) (fun hg=>(by (repeat' (first|exact trivial|exact Le.refl _|exact Le.cnd hg|(refine And.intro ?_ ?_))) <;> fail)) (by rfl) (by kernel_rfl) ?_)|(refine ql (fun _=>rfl) 300 (qmc) qc (by (repeat' (first|exact trivial|exact Le.refl _|(refine And.intro ?_ ?_))) <;> fail) (by rfl) (by kernel_rfl) ?_)|(refine qw (fun _=>rfl) 300 (fun hg=>qmc) (fun hg=>qc) (fun hg=>(by (repeat' (first|exact trivial|exact Le.refl _|exact Le.cnd hg|(refine And.intro ?_ ?_))) <;> fail)) (by rfl) (by kernel_rfl) ?_)|refine zD 300 ?_|(apply zB <;> intro hb <;> (try simp [-List.getD_eq_getElem?_getD] at hb) <;> try (exfalso;omega))|refine Ob.intro ?_ ?_))
 exact Le.of_eq (congrArg AV.bool (by kernel_rfl))
end Go.Proofs.YtikahnkkfkoglaaGreatDoor
end
section
namespace Go.Proofs.YtikahnkkfkoglaaGreatDoor
open Go Go.Sx Go.RowKit Go.St
set_option maxRecDepth 100000
set_option maxHeartbeats 8000000
theorem jts (l:List Nd) (hl:l.length≤9223372036854775807) (hz:∀ n∈l,NdSz n):Con Tryz.prog 7 [jr l] (.tup [(qej l).1.av,.bool (qej l).2]):=by
 have hm:Tree l→Con Tryz.prog 16 [jr l] (.tup [(if (qbx l).1=0 then qev l else mdZ).av,.bool (decide ((qbx l).1=0))]):=fun ht=>by
  by_cases h:(qbx l).1=0
  ·rw [zb h,xl h];exact jfu l ht h
  ·rw [za h,zay h];exact jtr l ht h
 refine zK {} 300 Tryz.func7 (fun c0 rdb=>?_)
 (repeat' ((conv=>whnf);first|refine zA ?_|refine zO ?_|refine Ob.auto ?_|refine zI ?_|refine zC 300 (qlz l hl) ?_|refine zG 300 (fun hg=>qlz l hl) ?_|(refine CallY.con (qlz l hl) (by rfl) leA ?_)|(refine CallZ.con (fun hg=>qlz l hl) jn (by rfl) ?_)|refine zC 300 (qly l hl hz) ?_|refine zG 300 (fun hg=>qly l hl hz) ?_|(refine CallY.con (qly l hl hz) (by rfl) leA ?_)|(refine CallZ.con (fun hg=>qly l hl hz) jn (by rfl) ?_)|(refine ql (fun _=>rfl) 300 (qlz l hl) qc (by (repeat' (first|exact trivial|exact Le.refl _|(refine And.intro ?_ ?_))) <;> fail) (by rfl) (by kernel_rfl) ?_)|(refine qw (fun _=>rfl) 300 (fun hg=>qlz l hl) (fun hg=>qc) (fun hg=>(by (repeat' (first|exact trivial|exact Le.refl _|exact Le.cnd hg|(refine And.intro ?_ ?_))) <;> fail)) (by rfl) (by kernel_rfl) ?_)|(refine ql (fun _=>rfl) 300 (qly l hl hz) qc (by (repeat' (first|exact trivial|exact Le.refl _|(refine And.intro ?_ ?_))) <;> fail) (by rfl) (by kernel_rfl) ?_)|(refine qw (fun _=>rfl) 300 (fun hg=>qly l hl hz) (fun hg=>qc) (fun hg=>(by (repeat' (first|exact trivial|exact Le.refl _|exact Le.cnd hg|(refine And.intro ?_ ?_))) <;> fail)) (by rfl) (by kernel_rfl) ?_)|refine zD 300 ?_|(apply zB <;> intro hb <;> (try simp [-List.getD_eq_getElem?_getD] at hb) <;> try (exfalso;omega))|refine Ob.intro ?_ ?_))
 ·have e:qej l=(mdZ,false):=za fun h=>by
   rcases hb with hb|hb
   ·omega
   ·rw [hb] at h;simp at h
  rw [e]
  exact Le.tup ⟨jfv,Le.refl _,trivial⟩
 ·((conv=>whnf);refine qef (fun _=>rfl) 300 (hm (qnt hb.2)) (by rfl) leA (by kernel_rfl) ?_)
  (repeat' ((conv=>whnf);first|refine zA ?_|refine zO ?_|refine Ob.auto ?_|refine zD 300 ?_|(apply zB <;> intro hb <;> (try simp [-List.getD_eq_getElem?_getD] at hb) <;> try (exfalso;omega))|refine Ob.intro ?_ ?_))
  have e:qej l=(if (qbx l).1=0 then qev l else mdZ,decide ((qbx l).1=0)):=by
   unfold qej
   by_cases h:(qbx l).1=0
   ·rw [zb ⟨hb,h⟩,zb h,xl h]
   ·rw [za (fun g=>h g.2),za h,zay h]
  rw [e]
  exact Le.refl _
end Go.Proofs.YtikahnkkfkoglaaGreatDoor
end
section
namespace Go.Proofs.YtikahnkkfkoglaaGreatDoor
open List renaming getD_eq_getElem?_getD → zd
open Go Go.Sx Go.RowKit Go.St Pa
set_option maxRecDepth 100000
set_option maxHeartbeats 8000000
theorem jfw {c:Int} (h:0≤c∧c<256):0≤c.tmod 60∧c.tmod 60<60:=⟨Int.tmod_nonneg _ h.1,Int.tmod_lt_of_pos _ (by decide)⟩
theorem tmod6 {c:Int} (h:0≤c∧c<256):0≤c.tmod 6∧c.tmod 6<6:=⟨Int.tmod_nonneg _ h.1,Int.tmod_lt_of_pos _ (by decide)⟩
theorem jtt (m:Md) (steps most:Int) (h:0≤steps) (h1:(qgl m steps most).2=true) (h2:(qgl m (steps+1) most).2=true):(qgl m steps most).1≤(qgl m (steps+1) most).1:=by
 have e:∀ s:Int,0≤s→qgl m s most=if (qka m s most).2=true then (((qka m s most).1.length:Int),true) else (0,false):=fun s hs=>za (Int.not_lt.2 hs)
 rw [e _ h] at h1 ⊢
 rw [e _ (by omega)] at h2 ⊢
 by_cases e1:(qka m steps most).2=true
 ·by_cases e2:(qka m (steps+1) most).2=true
  ·rw [zb e1,zb e2]
   exact Int.ofNat_le.2 (jdg m steps (qch most) 20001 0 (qcc m) e1 e2)
  ·rw [za e2] at h2;cases h2
 ·rw [za e1] at h1;cases h1
theorem jtu (l:List Nd) (hl:l.length≤9223372036854775807) (hz:∀ n∈l,NdSz n) (a b:Int) (ha:0≤a∧a<256) (hbb:0≤b∧b<256) :
  Con Tryz.prog 4 [jr l,.int .u8 a,.int .u8 b] (.bool true):=by
 have hm:=jts l hl hz
 have h1:=jfw ha
 have h2:=jfw hbb
 have h3:=tmod6 hbb
 cases hmd:(qej l).2 with
 | false=>
  rw [hmd] at hm
  generalize (qej l).1=M at hm
  refine zK {} 300 Tryz.func4 (fun c0 rdb=>?_)
  (repeat' ((conv=>whnf);first|refine zA ?_|refine zO ?_|refine Ob.auto ?_|refine zC 300 (qfc) ?_|refine zG 300 (fun hg=>qfc) ?_|(refine CallY.con (qfc) (by rfl) leA ?_)|(refine CallZ.con (fun hg=>qfc) jn (by rfl) ?_)|refine zC 300 (hm) ?_|refine zG 300 (fun hg=>hm) ?_|(refine CallY.con (hm) (by rfl) leA ?_)|(refine CallZ.con (fun hg=>hm) jn (by rfl) ?_)|(refine ql (fun _=>rfl) 300 (qfc) qc (by (repeat' (first|exact trivial|exact Le.refl _|(refine And.intro ?_ ?_))) <;> fail) (by rfl) (by kernel_rfl) ?_)|(refine qw (fun _=>rfl) 300 (fun hg=>qfc) (fun hg=>qc) (fun hg=>(by (repeat' (first|exact trivial|exact Le.refl _|exact Le.cnd hg|(refine And.intro ?_ ?_))) <;> fail)) (by rfl) (by kernel_rfl) ?_)|(refine ql (fun _=>rfl) 300 (hm) qc (by (repeat' (first|exact trivial|exact Le.refl _|(refine And.intro ?_ ?_))) <;> fail) (by rfl) (by kernel_rfl) ?_)|(refine qw (fun _=>rfl) 300 (fun hg=>hm) (fun hg=>qc) (fun hg=>(by (repeat' (first|exact trivial|exact Le.refl _|exact Le.cnd hg|(refine And.intro ?_ ?_))) <;> fail)) (by rfl) (by kernel_rfl) ?_)|refine zD 300 ?_|(apply zB <;> intro hb <;> (try simp [-zd] at hb) <;> try (exfalso;omega))|refine Ob.intro ?_ ?_))
  all_goals exact Le.refl _
 | true=>
  rw [hmd] at hm
  have hM:=(qsm hmd).1
  have hvf:VFit (qej l).1.vars:=by rw [(qsm hmd).2.1];exact jpb (qsm hmd).2.2.1 (qnx (qsm hmd).2.2.2).2
  have hf:=jpc hM.ok hvf
  generalize (qej l).1=M at hm hM hf
  have c1:=jdk M hM hf (1+a.tmod 60)
  have c2:=jdk M hM hf (1+a.tmod 60+b.tmod 60)
  have c3:=jdl M hM hf (b.tmod 6) (1+a.tmod 60+b.tmod 60)
  have c4:=jdl M hM hf (b.tmod 6+1) (1+a.tmod 60+b.tmod 60)
  have p1:=jpy (m:=M) (x:=1+a.tmod 60) (y:=1+a.tmod 60+b.tmod 60) (by omega) (by omega) (by omega)
  have p2:=jtt M (b.tmod 6) (1+a.tmod 60+b.tmod 60) h3.1
  generalize qbg M (1+a.tmod 60+b.tmod 60)=S at c2 p1
  generalize qbg M (1+a.tmod 60)=R at c1 p1
  generalize qgl M (b.tmod 6) (1+a.tmod 60+b.tmod 60)=N1 at c3 p2
  generalize qgl M (b.tmod 6+1) (1+a.tmod 60+b.tmod 60)=N2 at c4 p2
  obtain ⟨p3,p4,p5,p6⟩:=p1
  obtain ⟨RL,rw,rb⟩:=R
  obtain ⟨n1,f1⟩:=N1
  obtain ⟨n2,f2⟩:=N2
  simp only at p2 p3 p4 p5 p6
  refine zK {} 300 Tryz.func4 (fun c0 rdb=>?_)
  (repeat' ((conv=>whnf);first|refine zA ?_|refine zO ?_|refine Ob.auto ?_|refine zI ?_|refine zC 300 (qfc) ?_|refine zG 300 (fun hg=>qfc) ?_|(refine CallY.con (qfc) (by rfl) leA ?_)|(refine CallZ.con (fun hg=>qfc) jn (by rfl) ?_)|refine zC 300 (hm) ?_|refine zG 300 (fun hg=>hm) ?_|(refine CallY.con (hm) (by rfl) leA ?_)|(refine CallZ.con (fun hg=>hm) jn (by rfl) ?_)|(refine ql (fun _=>rfl) 300 (qfc) qc (by (repeat' (first|exact trivial|exact Le.refl _|(refine And.intro ?_ ?_))) <;> fail) (by rfl) (by kernel_rfl) ?_)|(refine qw (fun _=>rfl) 300 (fun hg=>qfc) (fun hg=>qc) (fun hg=>(by (repeat' (first|exact trivial|exact Le.refl _|exact Le.cnd hg|(refine And.intro ?_ ?_))) <;> fail)) (by rfl) (by kernel_rfl) ?_)|(refine ql (fun _=>rfl) 300 (hm) qc (by (repeat' (first|exact trivial|exact Le.refl _|(refine And.intro ?_ ?_))) <;> fail) (by rfl) (by kernel_rfl) ?_)|(refine qw (fun _=>rfl) 300 (fun hg=>hm) (fun hg=>qc) (fun hg=>(by (repeat' (first|exact trivial|exact Le.refl _|exact Le.cnd hg|(refine And.intro ?_ ?_))) <;> fail)) (by rfl) (by kernel_rfl) ?_)|refine zD 300 ?_|(apply zB <;> intro hb <;> (try simp [-zd] at hb) <;> try (exfalso;omega))|refine Ob.intro ?_ ?_))
  (repeat' ((conv=>whnf);first|refine zO ?_|refine Ob.auto ?_|(refine Ob.intro (by (first|exact fun h=>⟨h,fun h2=>(zf _ _).mpr ⟨h,h2⟩⟩|exact ⟨by omega,by omega⟩)) ?_)|refine zC 300 (c1) ?_|refine zG 300 (fun hg=>c1) ?_|refine zX (c1) ?_|refine zY (fun hg=>c1) ?_|refine zC 300 (c2) ?_|refine zG 300 (fun hg=>c2) ?_|refine zX (c2) ?_|refine zY (fun hg=>c2) ?_|refine zC 300 (c3) ?_|refine zG 300 (fun hg=>c3) ?_|refine zX (c3) ?_|refine zY (fun hg=>c3) ?_|refine zC 300 (c4) ?_|refine zG 300 (fun hg=>c4) ?_|refine zX (c4) ?_|refine zY (fun hg=>c4) ?_|(refine ql (fun _=>rfl) 300 (c1) qc (by (repeat' (first|exact trivial|exact Le.refl _|(refine And.intro ?_ ?_))) <;> fail) (by rfl) (by kernel_rfl) ?_)|(refine qw (fun _=>rfl) 300 (fun hg=>c1) (fun hg=>qc) (fun hg=>(by (repeat' (first|exact trivial|exact Le.refl _|exact Le.cnd hg|(refine And.intro ?_ ?_))) <;> fail)) (by rfl) (by kernel_rfl) ?_)|(refine ql (fun _=>rfl) 300 (c2) qc (by (repeat' (first|exact trivial|exact Le.refl _|(refine And.intro ?_ ?_))) <;> fail) (by rfl) (by kernel_rfl) ?_)|(refine qw (fun _=>rfl) 300 (fun hg=>c2) (fun hg=>qc) (fun hg=>(by (repeat' (first|exact trivial|exact Le.refl _|exact Le.cnd hg|(refine And.intro ?_ ?_))) <;> fail)) (by rfl) (by kernel_rfl) ?_)|(refine ql (fun _=>rfl) 300 (c3) qc (by (repeat' (first|exact trivial|exact Le.refl _|(refine And.intro ?_ ?_))) <;> fail) (by rfl) (by kernel_rfl) ?_)|(refine qw (fun _=>rfl) 300 (fun hg=>c3) (fun hg=>qc) (fun hg=>(by (repeat' (first|exact trivial|exact Le.refl _|exact Le.cnd hg|(refine And.intro ?_ ?_))) <;> fail)) (by rfl) (by kernel_rfl) ?_)|(refine ql (fun _=>rfl) 300 (c4) qc (by (repeat' (first|exact trivial|exact Le.refl _|(refine And.intro ?_ ?_))) <;> fail) (by rfl) (by kernel_rfl) ?_)|(refine qw (fun _=>rfl) 300 (fun hg=>c4) (fun hg=>qc) (fun hg=>(by (repeat' (first|exact trivial|exact Le.refl _|exact Le.cnd hg|(refine And.intro ?_ ?_))) <;> fail)) (by rfl) (by kernel_rfl) ?_)|(refine zR 300 ?_)|(apply zB <;> intro hb <;> (try simp [-zd] at hb) <;> try (exfalso;omega))|refine Ob.intro ?_ ?_))
  ·exfalso
   rcases hb with (((h|h)|h)|⟨h,h'⟩)|⟨h,h'⟩
   ·omega
   ·omega
   ·omega
   ·subst h
    have e:=p3 (.inl rfl)
    subst e
    rcases h' with h'|h'
    ·cases h'
    ·exact h' rfl
   ·subst h
    have e:=p3 (.inr rfl)
    subst e
    rcases h' with h'|h'
    ·cases h'
    ·exact h' rfl
  ·refine Le.of_eq (congrArg AV.bool ?_)
   simp only
   cases f1 with
   | false=>rfl
   | true=>
    cases f2 with
    | false=>rfl
    | true=>rw [xl (p2 rfl rfl)];rfl
end Go.Proofs.YtikahnkkfkoglaaGreatDoor
end
