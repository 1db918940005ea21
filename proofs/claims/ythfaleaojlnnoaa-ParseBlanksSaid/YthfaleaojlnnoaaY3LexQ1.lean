/- Contracts of the reference lexer's small functions, out of those of names. -/
import Derived.Test.YthfaleaojlnnoaaY3LexPlain
import Derived.Test.YthfaleaojlnnoaaY36
import Derived.Test.YthfaleaojlnnoaaY32
set_option linter.unusedSimpArgs false
set_option linter.unusedVariables false
namespace Go.Proofs.Ythfaleaojlnnoaa
open Go.Sx Go.RowKit
set_option maxRecDepth 100000
theorem qyp (c:Int):Con Try.prog 33 [.int .u8 c] (.bool (decide (48≤c) && decide (c≤57))):=qyn c
theorem jjg (c:Int):Con Try.prog 31 [.int .u8 c] (.bool (decide (65≤c) && decide (c≤90) || decide (97≤c) && decide (c≤122))):=qyo c
theorem qyq (l:List UInt8) (c:Int) (hl:l.length≤1000):Con Try.prog 29 [.str l,.int .u8 c] (.bool (Lx.hasB l c)):=by
 refine zK {} 100 Try.func29 (fun c0 rdb=>?_)
 (conv=>whnf);refine qfl (fun _=>rfl) 100 1 (fun k:Nat=>⟨[(0,.str l),(1,.int .u8 c),(5,.int .i64 k)],[],0⟩)
  (fun k=>k≤l.length∧Lx.hasB (l.take k) c=false) (fun k=>l.length - k) 0 ⟨by omega,by simp [Lx.hasB]⟩ subA (fun _=>rfl) (by kernel_rfl) ?_
 rintro k ⟨hk,hf⟩
 repeat' ((conv=>whnf);first|refine Ob.auto ?_|(apply zB <;> intro hb <;> (try simp at hb) <;> try (exfalso;omega)))
 ·have h1:=Lx.hasB_step (by assumption) c
  refine Le.of_eq (congrArg AV.bool ?_)
  rw [hb,beq_self_eq_true,Bool.or_true] at h1
  exact (Lx.hasB_take h1).symm
 ·(conv=>whnf);refine Exists.intro (k+1) ⟨⟨by omega,?_⟩,subA,by omega⟩
  rw [Lx.hasB_step (by assumption) c,hf]
  simpa using hb
 ·rw [List.take_of_length_le (by omega)] at hf
  exact Le.of_eq (by rw [hf])
theorem jjh (c:Int):Con Try.prog 32 [.int .u8 c] (.bool (Lx.wordC c)):=jjf c
theorem qpg (s:List UInt8) (i:Nat) (hi:i≤s.length) (hs:s.length≤1000000):Con Try.prog 30 [.str s,.int .i64 i] (.str (Lx.twoL (s.drop i))):=by
 refine zK {} 100 Try.func30 (fun c0 rdb=>?_)
 repeat' ((conv=>whnf);first|refine Ob.auto ?_|(apply zB <;> intro hb <;> (try simp at hb) <;> try (exfalso;omega)))
 ·refine Le.of_eq (congrArg AV.str ?_)
  rw [Lx.twoL,zk,zb (by omega),show ((i:Int)+2).toNat=i+2 by omega,Int.toNat_natCast,zar,xv]
 ·refine Le.of_eq (congrArg AV.str ?_)
  rw [Lx.twoL,zk,za (by omega)]
end Go.Proofs.Ythfaleaojlnnoaa
