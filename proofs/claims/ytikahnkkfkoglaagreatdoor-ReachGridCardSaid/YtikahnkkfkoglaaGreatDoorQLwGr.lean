/- The law ReachGrid. -/
import Derived.Test.YtikahnkkfkoglaaGreatDoorQGrC
import Derived.Test.YtikahnkkfkoglaaGreatDoorQ2
set_option linter.unusedSimpArgs false
set_option linter.unusedVariables false
namespace Go.Proofs.YtikahnkkfkoglaaGreatDoor
open List renaming getD_eq_getElem?_getD → zd
open Go Go.Sx Go.RowKit Go.St Pa
set_option maxRecDepth 100000
set_option maxHeartbeats 8000000
def repG:Nat→List UInt8
 | 0=>[]
 | n+1=>repG n++[115,107,105,112,59,32]
theorem jib:∀ n,(repG n).length=6 * n
 | 0=>rfl
 | n+1=>by rw [repG,zg,jib n];simp;omega
def qsm (a:Nat):List UInt8:=([112,114,111,99,32,112,32,42,32]++[UInt8.ofNat (48+a)])++[32,123,32]
def gridT (a b:Nat):List UInt8:=(qsm a++repG b)++[125,32,100,101,97,100,108,111,99,107,59]
theorem jxo (a i:Nat) (h:i≤4):(qsm a++repG i).length≤40:=by
 have h1:(qsm a).length=13:=rfl
 rw [zg,jib,h1];omega
theorem jxp:∀ b:Fin 5,∀ i:Fin 3,(b.val+1) ^ i.val * (b.val+1)≤125:=by decide
theorem jxq:∀ a:Fin 4,(UInt8.ofNat (48+a.val)).toNat=48+a.val:=by decide
theorem qym {c:Int} {a:Nat} (ea:1+c.tmod 3=a) (ha:1≤a∧a≤3):(AV.int IntKind.u8 (48+(1+c.tmod 3)))=AV.int IntKind.u8 ((UInt8.ofNat (48+a)).toNat:Int):=by
 rw [ea,jxq ⟨a,by omega⟩];simp
theorem qsn {c:Int} {a:Nat} (ea:1+c.tmod 3=a) (ha:1≤a∧a≤3):qck 1 (chop (0+1) [AV.int IntKind.u8 (48+(1+c.tmod 3))])=[UInt8.ofNat (48+a)]:=by
 rw [qym ea ha]
 show [UInt8.ofNat ((UInt8.ofNat (48+a)).toNat:Int).toNat]=_
 rw [zz,UInt8.ofNat_toNat]
theorem qfi (c s:Int) (a b:Nat) (hc:0≤c∧c<256) (hs:0≤s∧s<256) (ea:1+c.tmod 3=a) (eb:1+s.tmod 4=b) (ha:1≤a∧a≤3) (hbb:1≤b∧b≤4) (l:List Nd) (m:Md)
  (c1:Con Tryz.prog 15 [.str (gridT a b)] (.tup [qz l,flt 0 0])) (c2:Con Tryz.prog 16 [qz l] (.tup [m.av,.bool true]))
  (c3:Con Tryz.prog 9 [m.av,iv 200] (.agg [iv (((b+1) ^ a:Nat):Int),.bool true,.bool false,.nils])) (c4:Con Tryz.prog 14 [m.av,iv ((a:Int) * b),iv 200] (.tup [iv (((b+1) ^ a:Nat):Int),.bool true]))
  (c5:Con Tryz.prog 14 [m.av,iv 1,iv 200] (.tup [iv (1+(a:Int)),.bool true])) :
  Con Tryz.prog 5 [.int .u8 c,.int .u8 s] (.bool true):=by
 have h1:0≤c.tmod 3:=Int.tmod_nonneg _ hc.1
 have h2:0≤s.tmod 4:=Int.tmod_nonneg _ hs.1
 have hab:0≤(1+c.tmod 3) * (1+s.tmod 4)∧(1+c.tmod 3) * (1+s.tmod 4)≤12:=by
  rw [ea,eb]
  have h3:a * b≤3 * 4:=Nat.mul_le_mul ha.2 hbb.2
  have h4:((a * b:Nat):Int)=(a:Int) * b:=Int.natCast_mul a b
  omega
 rw [← ea,← eb] at c4
 rw [← ea] at c5
 refine zK {} 300 Tryz.func5 (fun c0 rdb=>?_)
 (repeat' ((conv=>whnf);first|refine zA ?_|refine zO ?_|refine Ob.auto ?_|(refine Ob.intro (by (first|exact ⟨by omega,by omega⟩|exact ⟨show (0:Int)≤48+(1+c.tmod 3) by omega,show 48+(1+c.tmod 3)≤(255:Int) by omega⟩|exact ⟨rfl,rfl⟩|exact fun i hi=>⟨UInt8.ofNat (48+a),by obtain rfl:i=0:=by omega;exact congrArg (fun x=>[x]) (qym ea ha)⟩|exact (by rw [qsn ea ha];decide))) ?_)|refine zC 300 (qmo) ?_|refine zG 300 (fun hg=>qmo) ?_|(refine CallY.con (qmo) (by rfl) leA ?_)|(refine CallZ.con (fun hg=>qmo) jp (by rfl) ?_)|(refine qm (fun _=>rfl) 300 (qmo) qc (by (repeat' (first|exact trivial|exact Le.refl _|(refine And.intro ?_ ?_))) <;> fail) (by rfl) (by kernel_rfl) ?_)|(refine jb (fun _=>rfl) 300 (fun hg=>qmo) (fun hg=>qc) (fun hg=>(by (repeat' (first|exact trivial|exact Le.refl _|exact Le.cnd hg|(refine And.intro ?_ ?_))) <;> fail)) (by rfl) (by kernel_rfl) ?_)|refine zD 300 ?_|(apply zB <;> intro hb <;> (try simp [-zd] at hb) <;> (try (exfalso;omega)) <;> (try contradiction))|refine Ob.intro ?_ ?_))
 ·intro i hi
  obtain rfl:i=0:=by omega
  exact ⟨UInt8.ofNat (48+a),congrArg (fun x=>[x]) (qym ea ha)⟩
 ·rw [qsn ea ha]
  exact zau rfl
 ·rw [qsn ea ha]
  exact zau rfl
 ((conv=>whnf);refine qt (fun _=>rfl) 300 1 (fun i:Nat=>[(9,iv i),(7,.str (qsm a++repG i))]) (fun _=>[]) (fun i=>i≤b) (fun i=>b - i) (0) (zw _) ⟨Le.refl _,Le.of_eq (congrArg AV.str (by rw [qsn ea ha];rfl)),trivial⟩ qa (fun _=>rfl) (by kernel_rfl) ?_;(conv=>whnf))
 intro i hi
 have l1i:=jxo a i (by omega)
 by_cases hik:i<b
 ·(repeat' ((conv=>whnf);first|refine zA ?_|refine zO ?_|refine Ob.auto ?_|(refine Ob.intro (by (first|exact ⟨by omega,by omega⟩|exact zx (Nat.add_le_add_right l1i _) (show 40+6≤9223372036854775807 by decide))) ?_)|refine zD 300 ?_|(apply zB <;> intro hb <;> (try simp [-zd] at hb) <;> (try (exfalso;omega)) <;> (try contradiction))|refine Ob.intro ?_ ?_))
  ((conv=>whnf);refine ⟨i+1,hik,⟨⟨Le.refl _,Le.of_eq (congrArg AV.str (zv _ _ _)),trivial⟩,qa⟩,⟨qa,qa⟩,?_⟩;(first|omega|(dsimp only;omega)|skip))
 ·obtain rfl:i=b:=by omega
  (repeat' ((conv=>whnf);first|refine zA ?_|refine zO ?_|refine Ob.auto ?_|(refine Ob.intro (by (first|exact ⟨by omega,by omega⟩)) ?_)|refine zD 300 ?_|(apply zB <;> intro hb <;> (try simp [-zd] at hb) <;> (try (exfalso;omega)) <;> (try contradiction))|refine Ob.intro ?_ ?_))
  ((conv=>whnf);refine qt (fun _=>rfl) 300 1 (fun j:Nat=>[(10,iv j),(8,iv (((i+1) ^ j:Nat):Int))]) (fun _=>[]) (fun j=>j≤a) (fun j=>a - j) (0) (zw _) qa qa (fun _=>rfl) (by kernel_rfl) ?_;(conv=>whnf))
  intro j hj
  by_cases hjk:j<a
  ·have hp:=jxp ⟨i,by omega⟩ ⟨j,by omega⟩
   simp only at hp
   have ep:(((i+1) ^ j:Nat):Int) * (1+s.tmod 4+1)=(((i+1) ^ (j+1):Nat):Int):=by
    rw [eb,Nat.pow_succ,Int.natCast_mul];rfl
   have hp':0≤(((i+1) ^ j:Nat):Int) * (1+s.tmod 4+1)∧(((i+1) ^ j:Nat):Int) * (1+s.tmod 4+1)≤125:=by
    rw [ep,Nat.pow_succ];omega
   (repeat' ((conv=>whnf);first|refine zA ?_|refine zO ?_|refine Ob.auto ?_|(refine Ob.intro (by (first|exact ⟨by omega,by omega⟩)) ?_)|refine zD 300 ?_|(apply zB <;> intro hb <;> (try simp [-zd] at hb) <;> (try (exfalso;omega)) <;> (try contradiction))|refine Ob.intro ?_ ?_))
   ((conv=>whnf);refine ⟨j+1,hjk,⟨⟨Le.refl _,Le.of_eq (congrArg (AV.int .i64) ep),trivial⟩,qa⟩,⟨qa,qa⟩,?_⟩;(first|omega|(dsimp only;omega)|skip))
  ·obtain rfl:j=a:=by omega
   (repeat' ((conv=>whnf);first|refine zA ?_|refine zO ?_|refine Ob.auto ?_|(refine Ob.intro (by (first|exact ⟨by omega,by omega⟩|exact zx (Nat.add_le_add_right l1i _) (show 40+11≤9223372036854775807 by decide))) ?_)|refine zC 300 (c1) ?_|refine zG 300 (fun hg=>c1) ?_|(refine CallY.con (c1) (by rfl) leA ?_)|(refine CallZ.con (fun hg=>c1) jp (by rfl) ?_)|refine zC 300 (c2) ?_|refine zG 300 (fun hg=>c2) ?_|(refine CallY.con (c2) (by rfl) leA ?_)|(refine CallZ.con (fun hg=>c2) jp (by rfl) ?_)|refine zC 300 (c3) ?_|refine zG 300 (fun hg=>c3) ?_|(refine CallY.con (c3) (by rfl) leA ?_)|(refine CallZ.con (fun hg=>c3) jp (by rfl) ?_)|refine zC 300 (c4) ?_|refine zG 300 (fun hg=>c4) ?_|(refine CallY.con (c4) (by rfl) leA ?_)|(refine CallZ.con (fun hg=>c4) jp (by rfl) ?_)|refine zC 300 (c5) ?_|refine zG 300 (fun hg=>c5) ?_|(refine CallY.con (c5) (by rfl) leA ?_)|(refine CallZ.con (fun hg=>c5) jp (by rfl) ?_)|(refine qm (fun _=>rfl) 300 (c1) qc (by (repeat' (first|exact trivial|exact Le.refl _|(refine And.intro ?_ ?_))) <;> fail) (by rfl) (by kernel_rfl) ?_)|(refine jb (fun _=>rfl) 300 (fun hg=>c1) (fun hg=>qc) (fun hg=>(by (repeat' (first|exact trivial|exact Le.refl _|exact Le.cnd hg|(refine And.intro ?_ ?_))) <;> fail)) (by rfl) (by kernel_rfl) ?_)|(refine qm (fun _=>rfl) 300 (c2) qc (by (repeat' (first|exact trivial|exact Le.refl _|(refine And.intro ?_ ?_))) <;> fail) (by rfl) (by kernel_rfl) ?_)|(refine jb (fun _=>rfl) 300 (fun hg=>c2) (fun hg=>qc) (fun hg=>(by (repeat' (first|exact trivial|exact Le.refl _|exact Le.cnd hg|(refine And.intro ?_ ?_))) <;> fail)) (by rfl) (by kernel_rfl) ?_)|(refine qm (fun _=>rfl) 300 (c3) qc (by (repeat' (first|exact trivial|exact Le.refl _|(refine And.intro ?_ ?_))) <;> fail) (by rfl) (by kernel_rfl) ?_)|(refine jb (fun _=>rfl) 300 (fun hg=>c3) (fun hg=>qc) (fun hg=>(by (repeat' (first|exact trivial|exact Le.refl _|exact Le.cnd hg|(refine And.intro ?_ ?_))) <;> fail)) (by rfl) (by kernel_rfl) ?_)|(refine qm (fun _=>rfl) 300 (c4) qc (by (repeat' (first|exact trivial|exact Le.refl _|(refine And.intro ?_ ?_))) <;> fail) (by rfl) (by kernel_rfl) ?_)|(refine jb (fun _=>rfl) 300 (fun hg=>c4) (fun hg=>qc) (fun hg=>(by (repeat' (first|exact trivial|exact Le.refl _|exact Le.cnd hg|(refine And.intro ?_ ?_))) <;> fail)) (by rfl) (by kernel_rfl) ?_)|(refine qm (fun _=>rfl) 300 (c5) qc (by (repeat' (first|exact trivial|exact Le.refl _|(refine And.intro ?_ ?_))) <;> fail) (by rfl) (by kernel_rfl) ?_)|(refine jb (fun _=>rfl) 300 (fun hg=>c5) (fun hg=>qc) (fun hg=>(by (repeat' (first|exact trivial|exact Le.refl _|exact Le.cnd hg|(refine And.intro ?_ ?_))) <;> fail)) (by rfl) (by kernel_rfl) ?_)|refine zD 300 ?_|(apply zB <;> intro hb <;> (try simp [-zd] at hb) <;> (try (exfalso;omega)) <;> (try contradiction))|refine Ob.intro ?_ ?_))
   all_goals exact Le.of_eq (congrArg AV.bool (by simp))
theorem tmod3 {c:Int} (h:0≤c∧c<256):c.tmod 3=0∨c.tmod 3=1∨c.tmod 3=2:=by
 have h1:0≤c.tmod 3:=Int.tmod_nonneg _ h.1
 have h2:c.tmod 3<3:=Int.tmod_lt_of_pos _ (by decide)
 omega
theorem tmod4 {c:Int} (h:0≤c∧c<256):c.tmod 4=0∨c.tmod 4=1∨c.tmod 4=2∨c.tmod 4=3:=by
 have h1:0≤c.tmod 4:=Int.tmod_nonneg _ h.1
 have h2:c.tmod 4<4:=Int.tmod_lt_of_pos _ (by decide)
 omega
theorem jxr (c s:Int) (hc:0≤c∧c<256) (hs:0≤s∧s<256):Con Tryz.prog 5 [.int .u8 c,.int .u8 s] (.bool true):=by
 rcases tmod3 hc with e|e|e <;> rcases tmod4 hs with e'|e'|e'|e'
 ·exact qfi c s 1 1 hc hs (by rw [e];rfl) (by rw [e'];rfl) (by decide) (by decide) _ _ jvg jvh jvi jvj jvk
 ·exact qfi c s 1 2 hc hs (by rw [e];rfl) (by rw [e'];rfl) (by decide) (by decide) _ _ jvl jvm jvn jvo jvp
 ·exact qfi c s 1 3 hc hs (by rw [e];rfl) (by rw [e'];rfl) (by decide) (by decide) _ _ jvq jvr jvs jvt jvu
 ·exact qfi c s 1 4 hc hs (by rw [e];rfl) (by rw [e'];rfl) (by decide) (by decide) _ _ jvv jvw jvx jvy jvz
 ·exact qfi c s 2 1 hc hs (by rw [e];rfl) (by rw [e'];rfl) (by decide) (by decide) _ _ jwa jwb jwc jwd jwe
 ·exact qfi c s 2 2 hc hs (by rw [e];rfl) (by rw [e'];rfl) (by decide) (by decide) _ _ jwf jwg jwh jwi jwj
 ·exact qfi c s 2 3 hc hs (by rw [e];rfl) (by rw [e'];rfl) (by decide) (by decide) _ _ jwk jwl jwm jwn jwo
 ·exact qfi c s 2 4 hc hs (by rw [e];rfl) (by rw [e'];rfl) (by decide) (by decide) _ _ jwp jwq jwr jws jwt
 ·exact qfi c s 3 1 hc hs (by rw [e];rfl) (by rw [e'];rfl) (by decide) (by decide) _ _ jwu jwv jww jwx jwy
 ·exact qfi c s 3 2 hc hs (by rw [e];rfl) (by rw [e'];rfl) (by decide) (by decide) _ _ jwz jxa jxb jxc jxd
 ·exact qfi c s 3 3 hc hs (by rw [e];rfl) (by rw [e'];rfl) (by decide) (by decide) _ _ jxe jxf jxg jxh jxi
 ·exact qfi c s 3 4 hc hs (by rw [e];rfl) (by rw [e'];rfl) (by decide) (by decide) _ _ jxj jxk jxl jxm jxn
end Go.Proofs.YtikahnkkfkoglaaGreatDoor
