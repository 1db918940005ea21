/- Some texts of the library, one behind the other. -/
import Derived.Test.YtkhdldncbmkidaaY34
import Derived.Test.YtkhdldncbmkidaaY3RuWH
import Derived.Test.YtkhdldncbmkidaaY3RuWG
import Derived.Test.YtkhdldncbmkidaaY3Cn4
import Derived.Test.YtkhdldncbmkidaaY32
set_option linter.unusedSimpArgs false
set_option linter.unusedVariables false
section
namespace Go.Proofs.Ytkhdldncbmkidaa
open Go Go.Sx Go.RowKit Go.Ru
set_option maxRecDepth 100000
section
variable {H:Type} {enc:TypeId × Value→H}
def lnQ:Nat→AV→Prop
 | 0,y=>∃ b:Bool,y=.bool b
 | 1,y=>∃ l:List Int,y=ints l
 | _,_=>True
theorem jks:Rdr enc Try.prog 31 (fun ys=>∃ l:Ln,True∧ys=qrn l):=by
 refine (jbw (q:=lnQ) Try.underlying31 (by kernel_rfl) (fun i f hf=>?_)).mono fun ys hy=>?_
 ·match i with
  | 0=>cases hf;exact ⟨⟨rfl,by kernel_rfl⟩,(jbv Try.underlying4).mono fun ys ⟨b,_,h⟩=>⟨_,⟨b,rfl⟩,h⟩⟩
  | 1=>cases hf;exact ⟨⟨rfl,by kernel_rfl⟩,rdr_ints.mono fun ys ⟨l,_,h⟩=>⟨_,⟨l,rfl⟩,h⟩⟩
  | i+2=>simp at hf
 ·obtain ⟨h1,h2⟩:=hy
  match ys,h1 with
  | [a,b],_=>
   obtain ⟨x,rfl⟩:=h2 0 a rfl
   obtain ⟨y,rfl⟩:=h2 1 b rfl
   exact ⟨⟨x,y⟩,trivial,rfl⟩
theorem jkt:Rdr enc Try.prog 29 (fun ys=>∃ l:List Ln,(l.length≤maxLen∧∀ r∈l,True)∧ys=[qhq l]):=
 qot (en:=qrn) (d:=⟨false,[]⟩) Try.underlying29 (by kernel_rfl) (by decide) (fun _=>rfl) jks
end
end Go.Proofs.Ytkhdldncbmkidaa
end
section
namespace Go.Proofs.Ytkhdldncbmkidaa
open List renaming getD_eq_getElem?_getD → zd
open Go Go.Sx Go.RowKit Go.Ru Go.Cl Go.St
set_option maxRecDepth 100000
set_option maxHeartbeats 8000000
theorem qjt {f:Nat→List AV} {v:Int} (h:f 0=[iv v]):Le (.slc 1 1 f) (ints [v]):=Le.slc rfl (fun i hi=>by obtain rfl:i=0:=(by omega);exact h)
def qbd (x:Nat):Nat→List Bool
 | 0=>[]
 | v+1=>decide (x % 2=1)::qbd (x / 2) v
theorem qyo:∀ (v x:Nat),(qbd x v).length=v
 | 0,_=>rfl
 | v+1,x=>by rw [qbd,xh,qyo]
theorem qyp:∀ (v x:Nat),qbd x (v+1)=qbd x v++[decide (x / 2 ^ v % 2=1)]
 | 0,x=>by simp [qbd]
 | v+1,x=>by
  rw [qbd,qyp v (x / 2),qbd,List.cons_append,Nat.div_div_eq_div_mul,Nat.pow_succ,Nat.mul_comm 2]
theorem jku (y:Nat):((y:Int).tmod 2 == 1)=decide (y % 2=1):=by
 have e:(y:Int).tmod 2=((y % 2:Nat):Int):=rfl
 rw [e]
 by_cases h:y % 2=1
 ·rw [h];rfl
 ·rw [xx h]
  exact beq_false_of_ne (fun h'=>h (by omega))
theorem jkv (x v:Nat) (hx:x≤1000000) (hv:v≤1000000):Con Try.prog 27 [iv x,iv v] (qlp (qbd x v)):=by
 refine zK {owns:=[(5,(4,1))]} 300 Try.func27 (fun c0 rdb=>?_)
 (repeat' ((conv=>whnf);first|refine zO ?_|refine Ob.auto ?_|(apply zB <;> intro hb <;> (try simp [-zd] at hb) <;> try (exfalso;omega))|refine Ob.intro ?_ ?_))
 ((conv=>whnf);refine qw (fun _=>rfl) 300 1 (fun i:Nat=>[(6,iv i),(5,.own 0 0 0 i),(0,iv ((x / 2 ^ i:Nat):Int))]) (fun i=>[(0,.row [] 4 1 0 i (encL (fun b=>[.bool b]) false (qbd x i)))]) (fun i=>i≤v) (fun i=>v - i) (0) (zv _) (by
  simp only [Nat.pow_zero,Nat.div_one]
  (repeat' (first|exact trivial|exact rfl|exact Le.refl _|exact SoLe.refl _|refine And.intro ?_ ?_))) (by
  repeat' (first|exact trivial|exact rfl|exact Le.refl _|exact fun j hj=>absurd hj (zo _)|refine And.intro ?_ ?_)) (fun _=>rfl) (by kernel_rfl) ?_;(conv=>whnf))
 intro i hi
 have hbl:=qyo i x
 by_cases hil:i<v
 ·have hy:x / 2 ^ i≤1000000:=zr (Nat.div_le_self _ _) hx
  have hnx:x / 2 ^ (i+1)=x / 2 ^ i / 2:=by rw [Nat.div_div_eq_div_mul,Nat.pow_succ]
  have hsn:=qyp i x
  generalize x / 2 ^ i=y at *
  have h1:inR .i64 ((y:Int).tmod 2):=by
   have e:(y:Int).tmod 2=((y % 2:Nat):Int):=rfl
   rw [e];exact qbh (by omega) (by omega)
  have h2:inR .i64 ((y:Int).tdiv 2):=by
   have e:(y:Int).tdiv 2=((y / 2:Nat):Int):=rfl
   rw [e];exact qbh (by omega) (by omega)
  replace hsn:=Hid.in hsn
  replace hnx:=Hid.in hnx
  (repeat' ((conv=>whnf);first|refine zO ?_|refine Ob.auto ?_|(refine Ob.intro (by (first|exact ⟨by omega,by omega⟩|exact ⟨by decide,h1⟩|exact ⟨by decide,h2⟩|exact ⟨⟨rfl,rfl⟩,qcm (b:=(tab Try.prog 4).bytes) (by omega) (by decide +kernel)⟩)) ?_)|(apply zB <;> intro hb <;> (try simp [-zd] at hb) <;> try (exfalso;omega))|refine Ob.intro ?_ ?_))
  ((conv=>whnf);refine ⟨i+1,hil,⟨(by
   rw [hnx.out]
   (repeat' (first|exact trivial|exact rfl|exact Le.refl _|exact SoLe.refl _|refine And.intro ?_ ?_))),(by
   rw [hsn.out]
   have e:=app1 (enc:=fun b:Bool=>[.bool b]) (d:=false) (l:=qbd x i) (x:=decide (y % 2=1)) (g:=chop (0+1) [AV.bool ((y:Int).tmod 2 == 1)]) (by rw [jku];rfl)
   rw [hbl] at e
   repeat' (first|exact trivial|exact rfl|exact Le.refl _|exact fun j hj=>e j hj|refine And.intro ?_ ?_))⟩,⟨qa,qa⟩,?_⟩;(first|omega|(dsimp only;omega)|skip))
 ·obtain rfl:i=v:=by omega
  (repeat' ((conv=>whnf);first|refine zO ?_|refine Ob.auto ?_|(apply zB <;> intro hb <;> (try simp [-zd] at hb) <;> try (exfalso;omega))|refine Ob.intro ?_ ?_))
  exact Le.slc hbl.symm (fun k hk=>rfl)
def qju (cs:List (List Int)) (v:Nat):Bool:=(List.range (2 ^ v)).any fun x=>allB cs (qbd x v)
theorem shl1 (v:Nat) (hv:v≤16):shlI .i64 1 (v:Int)=((2 ^ v:Nat):Int):=by
 unfold shlI
 have:min (v:Int).toNat IntKind.i64.bits=v:=by
  have:IntKind.i64.bits=64:=rfl
  omega
 rw [this,Int.one_mul]
 exact (Int.natCast_pow 2 v).symm
theorem jkw (cs:List (List Int)) (v:Nat) (hv:v≤16) (hl:cs.length≤1000000) (hm:∀ c∈cs,c.length≤1000000):Con Try.prog 13 [qak cs,iv v] (.bool (qju cs v)):=by
 have hp:2 ^ v≤65536:=Nat.pow_le_pow_right (by decide) hv
 have hsh:=shl1 v hv
 unfold qju
 generalize 2 ^ v=N at hp hsh ⊢
 have hsi:inR .i64 (shlI .i64 1 (v:Int)):=by rw [hsh];exact qbh (by omega) (by omega)
 refine zK {} 300 Try.func13 (fun c0 rdb=>?_)
 (repeat' ((conv=>whnf);first|refine zO ?_|refine Ob.auto ?_|(apply zB <;> intro hb <;> (try simp [-zd] at hb) <;> try (exfalso;omega))|refine Ob.intro ?_ ?_))
 ((conv=>whnf);refine qw (fun _=>rfl) 300 1 (fun i:Nat=>[(5,iv i)]) (fun _=>[]) (fun i=>i≤N∧∀ j,j<i→allB cs (qbd j v)=false) (fun i=>N - i) (0) (⟨zv _,fun j hj=>absurd hj (zo j)⟩) qa qa (fun _=>rfl) (by kernel_rfl) ?_;(conv=>whnf))
 rintro i ⟨hi,hno⟩
 by_cases hil:i<N
 ·have hmc:=jkv i v (by omega) (by omega)
  have hac:=jiw cs (qbd i v) hl hm
  replace hno:=Hid.in hno
  (repeat' ((conv=>whnf);first|refine zO ?_|refine Ob.auto ?_|(refine Ob.intro (by (first|exact ⟨by omega,by omega⟩|exact ⟨by omega,hsi⟩|exact ⟨by omega,by omega,hsi⟩)) ?_)|refine zC 300 (hmc) ?_|refine zG 300 (fun hg=>hmc) ?_|(refine CallY.con (hmc) (by rfl) leA ?_)|(refine CallZ.con (fun hg=>hmc) qf (by rfl) ?_)|refine zC 300 (hac) ?_|refine zG 300 (fun hg=>hac) ?_|(refine CallY.con (hac) (by rfl) leA ?_)|(refine CallZ.con (fun hg=>hac) qf (by rfl) ?_)|(refine qg (fun _=>rfl) 300 (hmc) qc (by (repeat' (first|exact trivial|exact Le.refl _|(refine And.intro ?_ ?_))) <;> fail) (by rfl) (by kernel_rfl) ?_)|(refine qi (fun _=>rfl) 300 (fun hg=>hmc) (fun hg=>qc) (fun hg=>(by (repeat' (first|exact trivial|exact Le.refl _|exact Le.cnd hg|(refine And.intro ?_ ?_))) <;> fail)) (by rfl) (by kernel_rfl) ?_)|(refine qg (fun _=>rfl) 300 (hac) qc (by (repeat' (first|exact trivial|exact Le.refl _|(refine And.intro ?_ ?_))) <;> fail) (by rfl) (by kernel_rfl) ?_)|(refine qi (fun _=>rfl) 300 (fun hg=>hac) (fun hg=>qc) (fun hg=>(by (repeat' (first|exact trivial|exact Le.refl _|exact Le.cnd hg|(refine And.intro ?_ ?_))) <;> fail)) (by rfl) (by kernel_rfl) ?_)|(apply zB <;> intro hb <;> (try simp [-zd] at hb) <;> try (exfalso;omega))|refine Ob.intro ?_ ?_))
  ·have hf:((List.range N).any fun x=>allB cs (qbd x v))=true:=List.any_eq_true.2 ⟨i,List.mem_range.2 hil,hb⟩
   rw [hf]
   exact Le.refl _
  ·((conv=>whnf);refine ⟨i+1,⟨hil,fun j hj=>by
    by_cases e:j=i
    ·subst e;exact hb
    ·exact hno.out j (by omega)⟩,⟨qa,qa⟩,⟨qa,qa⟩,?_⟩;(first|omega|(dsimp only;omega)|skip))
 ·have hf:((List.range N).any fun x=>allB cs (qbd x v))=false:=by
   rw [zbp]
   intro x hx
   rw [hno x (by have:=List.mem_range.1 hx;omega)]
   decide
  rw [hf]
  (repeat' ((conv=>whnf);first|refine zO ?_|refine Ob.auto ?_|(refine Ob.intro (by (first|exact ⟨by omega,by omega⟩|exact ⟨by omega,hsi⟩|exact ⟨by omega,by omega,hsi⟩)) ?_)|(apply zB <;> intro hb <;> (try simp [-zd] at hb) <;> try (exfalso;omega))|refine Ob.intro ?_ ?_))
  exact Le.refl _
end Go.Proofs.Ytkhdldncbmkidaa
end
