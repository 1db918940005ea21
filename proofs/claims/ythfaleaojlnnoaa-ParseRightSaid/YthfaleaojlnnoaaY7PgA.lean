/- What the parser reads without a fault, as a grammar: whoever keeps its rules has the tree. Nothing of the program. -/
import Derived.Test.YthfaleaojlnnoaaY7PaB
import Derived.Test.YthfaleaojlnnoaaY72
set_option linter.unusedSimpArgs false
set_option linter.unusedVariables false
namespace Go.Proofs.Ythfaleaojlnnoaa
namespace Pa
open Go Go.Sx
def Seq (R:Int→Int→Tr→Prop):Int→Int→List Tr→Prop
 | i,j,[]=>i≤j
 | i,k,t::r=>∃ a b,i≤a∧R a b t∧Seq R b k r
theorem qnm {R:Int→Int→Tr→Prop} {j a b k:Int} {t:Tr} (ht:R a b t) (hj:j≤a) (hk:b≤k):∀ (l:List Tr) (i:Int),Seq R i j l→Seq R i k (l++[t])
 | [],i,h=>⟨a,b,Int.le_trans h hj,ht,hk⟩
 | x::r,i,⟨c,d,h1,h2,h3⟩=>⟨c,d,h1,h2,qnm ht hj hk r d h3⟩
theorem quu {R:Int→Int→Tr→Prop} {j k:Int} (hk:j≤k):∀ (l:List Tr) (i:Int),Seq R i j l→Seq R i k l
 | [],i,h=>Int.le_trans h hk
 | x::r,i,⟨c,d,h1,h2,h3⟩=>⟨c,d,h1,h2,quu hk r d h3⟩
def posT (ts:List Lx.Tok) (i:Int):Int:=(ts.getD i.toNat Lx.tok0).pos
structure Alg (ts:List Lx.Tok) where
 E:Int→Int→Tr→Prop
 S:Int→Int→Tr→Prop
 B:Int→Int→Tr→Prop
 V:Int→Int→Tr→Prop
 I:Int→Int→Tr→Prop
 rNum:∀ {i j n:Int},0≤n→n≤999999→i<j→E i j (.mk 17 [] [n] (posT ts i) [])
 rName:∀ {i j k:Int} {w:List UInt8},k=18∨k=19→Go.St.nameF w=true→i<j→E i j (.mk k [w] [] (posT ts i) [])
 rUn:∀ {i i' j j' k:Int} {t:Tr},k=20∨k=21→i<i'→E i' j' t→j'≤j→E i j (.mk k [] [] (posT ts i) [t])
 rPar:∀ {i i' j j':Int} {t:Tr},i≤i'→E i' j' t→j'≤j→E i j t
 rBin:∀ {i j j' k sg:Int} {a b:Tr},0≤sg→sg≤8→E i j a→j≤j'→E j' k b→E i k (binT sg a b)
 rSet:∀ {i i' j j' k:Int} {w:List UInt8} {e:Tr},k=6∨k=7→Go.St.nameF w=true→i<i'→E i' j' e→j'≤j→S i j (.mk k [w] [] (posT ts i) [e])
 rRecv:∀ {i j d:Int} {w v:List UInt8},Go.St.nameF w=true→Go.St.nameF v=true→0≤d→d≤1→i<j→S i j (.mk 8 [w,v] [d] (posT ts i) [])
 rWhen:∀ {i i' j j' d:Int} {e:Tr},0≤d→d≤1→i<i'→E i' j' e→j'≤j→S i j (.mk 9 [] [d] (posT ts i) [e])
 rChoose:∀ {i i' j d:Int} {l:List Tr},0≤d→d≤1→i<i'→Seq B i' j l→l≠[]→S i j (.mk 10 [] [d] (posT ts i) l)
 rIf:∀ {i i' j j' k:Int} {e b:Tr},i<i'→E i' j e→j≤j'→B j' k b→S i k (.mk 11 [] [] (posT ts i) [e,b])
 rIfE:∀ {i i' j j' k k' n:Int} {e b c:Tr},i<i'→E i' j e→j≤j'→B j' k b→k≤k'→B k' n c→S i n (.mk 11 [] [] (posT ts i) [e,b,c])
 rWhile:∀ {i i' j j' k:Int} {e b:Tr},i<i'→E i' j e→j≤j'→B j' k b→S i k (.mk 12 [] [] (posT ts i) [e,b])
 rAtom:∀ {i i' j:Int} {b:Tr},i<i'→B i' j b→S i j (.mk 13 [] [] (posT ts i) [b])
 rBare:∀ {i j k:Int},k=14∨k=15→i<j→S i j (.mk k [] [] (posT ts i) [])
 rBlock:∀ {i i' j j':Int} {l:List Tr},i<i'→Seq S i' j' l→j'≤j→B i j (.mk 16 [] [] (posT ts i) l)
 rVar:∀ {i j n v:Int} {w:List UInt8},Go.St.nameF w=true→0≤n→n≤999999→-999999≤v→v≤999999→i<j→V i j (.mk 2 [w] [n,v] (posT ts i) [])
 rIVar:∀ {i j:Int} {t:Tr},V i j t→I i j t
 rChan:∀ {i j n m a b:Int} {w:List UInt8},Go.St.nameF w=true→0≤n→n≤999999→0≤m→m≤999999→0≤a→a≤1→0≤b→b≤1→i<j→I i j (.mk 1 [w] [n,m,a,b] (posT ts i) [])
 rProc:∀ {i i' j k n c:Int} {w:List UInt8} {vs ss:List Tr},Go.St.nameF w=true→0≤c→c≤999999→i<i'→Seq V i' j vs→Seq S j k ss→k≤n→I i n (.mk 3 [w] [c] (posT ts i) (vs++ss))
 rSafe:∀ {i i' j j':Int} {e:Tr},i<i'→E i' j' e→j'≤j→I i j (.mk 4 [] [] (posT ts i) [e])
 rDead:∀ {i j:Int},i<j→I i j (.mk 5 [] [] (posT ts i) [])
abbrev Snd (ts:List Lx.Tok) (R:Int→Int→Tr→Prop) (m:Nat) (f:Ps→Tr × Ps):Prop:=∀ p,AtOk ts p→(ts.length:Int)≤p.at_+m→(f p).2.err=0→R p.at_ (f p).2.at_ (f p).1
section
variable {ts:List Lx.Tok} {p q r:Ps} {m:Nat}
theorem qgw (h:(qd ts p).err=0):Go.St.nameF (jn ts p)=true∧(qd ts p).at_=p.at_+1:=by
 refine ⟨?_,qnh h⟩
 unfold qd at h
 unfold jn
 split
 ·rename_i hn
  unfold qdq at hn
  simp only [zf] at hn
  exact hn.1.2
 ·rename_i hn
  rw [za hn] at h
  exact (qng h).elim
theorem qnn (s:List UInt8):0≤qaf ts p s∧qaf ts p s≤1:=by
 unfold qaf;split <;> omega
variable (ht:ToksOk ts) (A:Alg ts)
include ht
theorem qjj (hp:AtOk ts p) (h:(numP ts p).err=0):0≤numN ts p∧numN ts p≤999999∧(numP ts p).at_=p.at_+1:=by
 have h3:=qzl h
 unfold numP at h
 unfold numN
 by_cases hn:qdr ts p=true
 ·rw [zb hn]
  unfold qdr at hn
  simp only [zf,xn] at hn
  have h1:=ht.num _ (qjb hp) hn.1
  have h2:=qpl h1.2 _ (zi _)
  rw [zam] at h2
  have h4:(10:Int) ^ (tk ts p).s.length≤10 ^ 6:=by
   have:=Nat.pow_le_pow_right (n:=10) (by decide) h1.1
   exact_mod_cast this
  have h5:(10:Int) ^ 6=1000000:=by decide
  omega
 ·rw [za hn] at h
  exact (qng h).elim
section
include A
theorem jbm {f:Ps→Tr × Ps} (hf:Runs ts f) (hF:Snd ts A.E m f) {c:Ps→Bool} {sg:Ps→Int} (hc:∀ p,c p=true→∃ s,sees ts p s=true) (hsg:∀ p,0≤sg p∧sg p≤8) :
  ∀ (n:Nat) (a:Tr) (p:Ps) (i:Int),AtOk ts p→(ts.length:Int)≤p.at_+m→A.E i p.at_ a→(qbt f c sg n a p).2.err=0→A.E i (qbt f c sg n a p).2.at_ (qbt f c sg n a p).1
 | 0,a,p,i,_,_,ha,_=>by rw [qbt];exact ha
 | n+1,a,p,i,h,hl,ha,he=>by
  rw [qbt] at he ⊢
  split
  ·rename_i hcp
   rw [zb hcp] at he
   obtain ⟨s,hs⟩:=hc p hcp
   have h1:=qh ht h hs
   have h2:=hf _ (h1.ok h)
   have h3:=qgb ht hf hc (sg:=sg) n (binT (sg p) a (f (adv p)).1) _ (h2.ok (h1.ok h))
   have e1:(adv p).at_=p.at_+1:=rfl
   have h4:=hF _ (h1.ok h) (by omega) (h3.err0 he)
   have h6:=h2.le
   exact jbm hf hF hc hsg n _ _ i (h2.ok (h1.ok h)) (by omega) (A.rBin (hsg p).1 (hsg p).2 ha (by omega) h4) he
  ·exact ha
theorem qqh {f:Ps→Tr × Ps} (hf:Runs ts f) (hF:Snd ts A.E m f) {c:Ps→Bool} {sg:Ps→Int} (hc:∀ p,c p=true→∃ s,sees ts p s=true) (hsg:∀ p,0≤sg p∧sg p≤8) (n:Nat) :
  Snd ts A.E m (fun p=>qbt f c sg n (f p).1 (f p).2):=fun p h hl he=>by
 have h1:=hf p h
 have h2:=qgb ht hf hc (sg:=sg) n (f p).1 _ (h1.ok h)
 have h3:=hF p h hl (h2.err0 he)
 have h4:=h1.le
 exact jbm ht A hf hF hc hsg n _ _ _ (h1.ok h) (by omega) h3 he
theorem jbn {f:Ps→Tr × Ps} (hf:Runs ts f) (hF:Snd ts A.E m f) (s:List UInt8) (sg:Int) (hsg:0≤sg∧sg≤8):Snd ts A.E m (qhp ts f s sg):=fun p h hl he=>by
 have h1:=hf p h
 unfold qhp at he ⊢
 split
 ·rename_i hs
  rw [zb hs] at he
  have h2:=qh ht (h1.ok h) hs
  have h3:=hf _ (h2.ok (h1.ok h))
  have e1:(adv (f p).2).at_=(f p).2.at_+1:=rfl
  have h4:=hF p h hl (h2.err0 (h3.err0 he))
  have h5:=h1.le
  have h6:=hF _ (h2.ok (h1.ok h)) (by omega) he
  exact A.rBin hsg.1 hsg.2 h4 (by omega) h6
 ·rename_i hs
  rw [za hs] at he
  exact hF p h hl he
section
variable {part:Ps→Tr × Ps} (hp:Runs ts part) (hP:Snd ts A.E m part)
include hp hP
theorem joa:Snd ts A.E m (qiz ts part):=qqh ht A hp hP (fun _=>qnd) (fun p=>by unfold qpk;(repeat' split) <;> omega) _
theorem job:Snd ts A.E m (sumF ts part):=qqh ht A (qks ht hp) (joa ht A hp hP) (fun _=>qne) (fun p=>by unfold sumS;split <;> omega) _
theorem joc:Snd ts A.E m (qnb ts part):=jbn ht A (qpn ht hp) (job ht A hp hP) _ _ (by decide)
theorem jod:Snd ts A.E m (qja ts part):=jbn ht A (qpo ht hp) (joc ht A hp hP) _ _ (by decide)
theorem joe:Snd ts A.E m (andF ts part):=qqh ht A (qkt ht hp) (jod ht A hp hP) (fun _ h=>⟨_,h⟩) (fun _=>by decide) _
theorem jbo:Snd ts A.E m (qbr ts part):=qqh ht A (qku ht hp) (joe ht A hp hP) (fun _ h=>⟨_,h⟩) (fun _=>by decide) _
end
theorem quv:∀ n,Snd ts A.E n (ja ts n)
 | 0=>fun p h hl _=>by have:=h.hi;omega
 | n+1=>fun p h hl he=>by
  unfold ja at he ⊢
  simp only at he ⊢
  split
  ·rename_i hs
   rw [zb hs] at he
   obtain ⟨h1,h2,h3⟩:=qjj ht h he
   exact A.rNum h1 h2 (by simp only;omega)
  rename_i hs
  rw [za hs] at he
  split
  ·rename_i hs
   rw [zb hs] at he
   obtain ⟨h1,h2⟩:=qgw he
   have e1:(adv p).at_=p.at_+1:=rfl
   exact A.rName (.inr rfl) h1 (by simp only;omega)
  rename_i hs
  rw [za hs] at he
  split
  ·rename_i hs
   rw [zb hs] at he
   have h1:Step ts p (adv p):=by rcases hs with hs|hs <;> exact qh ht h hs
   have h2:=jt (h1.ok h)
   have e1:(adv p).at_=p.at_+1:=rfl
   have he':(ifOk (ja ts n) (inP ts (adv p))).2.err=0:=he
   unfold ifOk at he' ⊢
   by_cases hi:(inP ts (adv p)).err=0
   ·rw [zb hi] at he'
    rw [zb hi]
    have h4:=quv n _ h2.1 (by omega) he'
    refine A.rUn (i':=(inP ts (adv p)).at_) ?_ (by omega) h4 (zk _)
    split
    ·exact .inl rfl
    ·exact .inr rfl
   ·rw [za hi] at he';exact absurd he' hi
  rename_i hs
  rw [za hs] at he
  split
  ·rename_i hs
   rw [zb hs] at he
   have h1:=qh ht h hs
   have h2:=jt (h1.ok h)
   have e1:(adv p).at_=p.at_+1:=rfl
   have h3:Step ts (adv p) (outP (if (inP ts (adv p)).err=0 then (qbr ts (ja ts n) (inP ts (adv p))).2 else inP ts (adv p))):=by
    refine qfc (h1.ok h) ?_
    split
    ·exact qkv ht (qdl ht n) _ h2.1
    ·exact h2.1.refl
   have h4:=qe ht (h3.ok (h1.ok h)) sRp
   have h5:=h4.err0 he
   have h6:=h4.le
   by_cases hi:(inP ts (adv p)).err=0
   ·rw [zb hi] at h5 h6
    rw [zb hi,zb hi]
    have h7:=jbo ht A (qdl ht n) (quv n) _ h2.1 (by omega) h5
    exact A.rPar (by omega) h7 h6
   ·rw [za hi] at h5
    exact absurd h5 hi
  ·rename_i hs
   rw [za hs] at he
   obtain ⟨h1,h2⟩:=qgw he
   exact A.rName (.inl rfl) h1 (by simp only;omega)
theorem qjk (h:AtOk ts p) (he:(eF ts p).2.err=0):A.E p.at_ (eF ts p).2.at_ (eF ts p).1:=
 jbo ht A (qdl ht _) (quv ht A _) p h (by have:=h.lo;omega) he
theorem quw {stat:Ps→Tr × Ps} (hs:Runs ts stat) (hS:Snd ts A.S m stat) (l0:List Tr) (i:Int):∀ (n:Nat) (l l1:List Tr) (p:Ps),l=l0++l1→AtOk ts p→(ts.length:Int)≤p.at_+m→Seq A.S i p.at_ l1→
  (jb ts stat n l p).2.err=0→∃ l2,(jb ts stat n l p).1=l0++l2∧Seq A.S i (jb ts stat n l p).2.at_ l2
 | 0,l,l1,p,e,_,_,h1,_=>by rw [jb];exact ⟨l1,e,h1⟩
 | n+1,l,l1,p,e,h,hl,h1,he=>by
  rw [jb] at he ⊢
  by_cases h0:p.err=0
  ·rw [zb h0] at he ⊢
   by_cases hb:sees ts p sRc=true
   ·rw [zb hb]
    exact ⟨l1,e,quu (by show p.at_≤p.at_+1;omega) _ _ h1⟩
   ·rw [za hb] at he ⊢
    have h2:=hs p h
    have h3:=qei ht hs n (l++[(stat p).1]) _ (h2.ok h)
    have h4:=hS p h hl (h3.err0 he)
    have h5:=h2.le
    exact quw hs hS l0 i n _ (l1++[(stat p).1]) _ (by rw [e,xj]) (h2.ok h) (by omega) (qnm h4 (zk _) (zk _) _ _ h1) he
  ·rw [za h0] at he
   exact absurd he h0
theorem jof {stat:Ps→Tr × Ps} (hs:Runs ts stat) (hS:Snd ts A.S m stat) (h:AtOk ts p) (hl:(ts.length:Int)≤p.at_+m+1) (he:(qw ts stat p).2.err=0):A.B p.at_ (qw ts stat p).2.at_ (qw ts stat p).1:=by
 have h1:=qe ht h sLc
 have h0:=jt (h1.ok h)
 have h2:=qfc (h1.ok h) (qei ht hs ts.length [] _ h0.1)
 have h3:=(qgc (h2.err0 he)).2
 obtain ⟨l2,h4,h5⟩:=quw ht A hs hS [] (inP ts (must ts p sLc)).at_ ts.length [] [] _ rfl h0.1 (by omega) (zk _) he
 unfold qw
 rw [h4]
 exact A.rBlock (by omega) h5 (zk _)
theorem jbp {blk:Ps→Tr × Ps} (hb:Runs ts blk) (hB:Snd ts A.B m blk) (i:Int):∀ (n:Nat) (l:List Tr) (p:Ps),AtOk ts p→(ts.length:Int)≤p.at_+m→Seq A.B i p.at_ l→l≠[]→(orL ts blk n l p).2.err=0→Seq A.B i (orL ts blk n l p).2.at_ (orL ts blk n l p).1∧(orL ts blk n l p).1≠[]
 | 0,l,p,_,_,h0,hn,_=>by rw [orL];exact ⟨h0,hn⟩
 | n+1,l,p,h,hl,h0,hn,he=>by
  rw [orL] at he ⊢
  split
  ·rename_i hs
   rw [zb hs] at he
   have h1:=qh ht h hs
   have h2:=hb _ (h1.ok h)
   have h3:=qjc ht hb n (l++[(blk (adv p)).1]) _ (h2.ok (h1.ok h))
   have e1:(adv p).at_=p.at_+1:=rfl
   have h4:=hB _ (h1.ok h) (by omega) (h3.err0 he)
   have h6:=h2.le
   exact jbp hb hB i n _ _ (h2.ok (h1.ok h)) (by omega) (qnm h4 (by omega) (zk _) _ _ h0) (by simp) he
  ·exact ⟨h0,hn⟩
theorem jog {blk:Ps→Tr × Ps} (hb:Runs ts blk) (hB:Snd ts A.B m blk) (i0 i:Int) (hi:0≤i∧i≤1) (h:AtOk ts p) (hl:(ts.length:Int)≤p.at_+m) (h0:i0≤p.at_) (he:(qce ts blk (posT ts i0) i p).2.err=0) :
  A.S i0 (qce ts blk (posT ts i0) i p).2.at_ (qce ts blk (posT ts i0) i p).1:=by
 unfold qce at he ⊢
 split
 ·rename_i hs
  rw [zb hs] at he
  have h1:=qh ht h hs
  have h2:=jl ht (h1.ok h)
  have h3:=jl ht (h2.ok (h1.ok h))
  have h5:=qe ht (h3.ok (h2.ok (h1.ok h))) qj
  have h4:=h2.trans (h3.trans h5)
  have n2:=h5.err0 he
  have n1:=h3.err0 n2
  have:p.at_+1≤_:=h4.le
  exact A.rRecv (qgw n1).1 (qgw n2).1 hi.1 hi.2 (by simp only;omega)
 ·rename_i hs
  rw [za hs] at he
  split
  ·rename_i hw
   rw [zb hw] at he
   have h1:=qh ht h hw
   have h2:=qas ht _ (h1.ok h)
   have h4:=qe ht (h2.ok (h1.ok h)) qj
   have h5:=qjk ht A (h1.ok h) (h4.err0 he)
   have e1:(adv p).at_=p.at_+1:=rfl
   exact A.rWhen hi.1 hi.2 (by omega) h5 h4.le
  ·rename_i hw
   rw [za hw] at he
   have h1:=qe ht h ji
   have h2:=hb _ (h1.ok h)
   have h3:=qjc ht hb ts.length [(blk (must ts p ji)).1] _ (h2.ok (h1.ok h))
   have h4:=(qgc (h2.err0 (h3.err0 he))).2
   have h5:=hB _ (h1.ok h) (by omega) (h3.err0 he)
   have h7:=h2.le
   have h6:=jbp ht A hb hB (must ts p ji).at_ ts.length [(blk (must ts p ji)).1] _ (h2.ok (h1.ok h)) (by omega) ⟨_,_,zk _,h5,zk _⟩ (by simp) he
   exact A.rChoose hi.1 hi.2 (by omega) h6.1 h6.2
theorem jbq:∀ n,Snd ts A.S n (qf ts n)
 | 0=>fun p h hl _=>by have:=h.hi;omega
 | n+1=>fun p h hl he=>by
  have hb:=qgq ht (qeb ht n)
  have hB:∀ q,AtOk ts q→(ts.length:Int)≤q.at_+n+1→(qw ts (qf ts n) q).2.err=0→A.B q.at_ (qw ts (qf ts n) q).2.at_ (qw ts (qf ts n) q).1:=fun q hq hlq heq=>jof ht A (qeb ht n) (jbq n) hq hlq heq
  unfold qf at he ⊢
  simp only at he ⊢
  split
  ·rename_i hw
   rw [zb hw] at he
   have h1:=qdb ht h qab
   have h2:=h1.le
   exact jog ht A hb (m:=n+1) (fun q hq hlq heq=>hB q hq (by omega) heq) p.at_ _ (qnn _) (h1.ok h) (by omega) h2 he
  rename_i hw
  rw [za hw] at he
  split
  ·rename_i hw
   rw [zb hw] at he
   have h1:=qh ht h hw
   have h2:=jl ht (h1.ok h)
   have h3:=qas ht _ (h2.ok (h1.ok h))
   have h4:=qe ht (h3.ok (h2.ok (h1.ok h))) qj
   have h5:=qjk ht A (h2.ok (h1.ok h)) (h4.err0 he)
   have h7:p.at_+1≤_:=h2.le
   exact A.rSet (.inr rfl) (qgw (h3.err0 (h4.err0 he))).1 (by omega) h5 h4.le
  rename_i hw
  rw [za hw] at he
  split
  ·rename_i hw
   rw [zb hw] at he
   have h1:=qh ht h hw
   have h2:=qas ht _ (h1.ok h)
   have h3:=hb _ (h2.ok (h1.ok h))
   have e1:(adv p).at_=p.at_+1:=rfl
   have hl2:=h2.le
   have hl3:=h3.le
   split
   ·rename_i hx
    rw [zb hx] at he
    have h5:=qh ht (h3.ok (h2.ok (h1.ok h))) hx
    have h6:=hb _ (h5.ok (h3.ok (h2.ok (h1.ok h))))
    have h7:=h5.err0 (h6.err0 he)
    have h8:=qjk ht A (h1.ok h) (h3.err0 h7)
    have h9:=hB _ (h2.ok (h1.ok h)) (by omega) h7
    have e2:(adv (qw ts (qf ts n) (eF ts (adv p)).2).2).at_=(qw ts (qf ts n) (eF ts (adv p)).2).2.at_+1:=rfl
    have h10:=hB _ (h5.ok (h3.ok (h2.ok (h1.ok h)))) (by omega) he
    exact A.rIfE (by omega) h8 (zk _) h9 (by omega) h10
   ·rename_i hx
    rw [za hx] at he
    have h8:=qjk ht A (h1.ok h) (h3.err0 he)
    have h9:=hB _ (h2.ok (h1.ok h)) (by omega) he
    exact A.rIf (by omega) h8 (zk _) h9
  rename_i hw
  rw [za hw] at he
  split
  ·rename_i hw
   rw [zb hw] at he
   have h1:=qh ht h hw
   have h2:=qas ht _ (h1.ok h)
   have h3:=hb _ (h2.ok (h1.ok h))
   have e1:(adv p).at_=p.at_+1:=rfl
   have hl2:=h2.le
   have h8:=qjk ht A (h1.ok h) (h3.err0 he)
   have h9:=hB _ (h2.ok (h1.ok h)) (by omega) he
   exact A.rWhile (by omega) h8 (zk _) h9
  rename_i hw
  rw [za hw] at he
  split
  ·rename_i hw
   rw [zb hw] at he
   have h1:=qh ht h hw
   have e1:(adv p).at_=p.at_+1:=rfl
   have h9:=hB _ (h1.ok h) (by omega) he
   exact A.rAtom (by omega) h9
  rename_i hw
  rw [za hw] at he
  split
  ·have h1:=qh ht h (by assumption)
   have h4:p.at_+1≤_:=(qe ht (h1.ok h) qj).le
   exact A.rBare (.inl rfl) (by simp only;omega)
  rename_i hw
  rw [za hw] at he
  split
  ·have h1:=qh ht h (by assumption)
   have h4:p.at_+1≤_:=(qe ht (h1.ok h) qj).le
   exact A.rBare (.inr rfl) (by simp only;omega)
  rename_i hw
  rw [za hw] at he
  have h1:=jl ht h
  have h2:=qe ht (h1.ok h) sEq
  have h3:=qas ht _ (h2.ok (h1.ok h))
  have h4:=qe ht (h3.ok (h2.ok (h1.ok h))) qj
  have h5:=qgw (h2.err0 (h3.err0 (h4.err0 he)))
  have h7:=h2.le
  have h8:=qjk ht A (h2.ok (h1.ok h)) (h4.err0 he)
  exact A.rSet (.inl rfl) h5.1 (by omega) h8 h4.le
theorem snd_s:Snd ts A.S ts.length (sF ts):=jbq ht A _
theorem jbr (h:AtOk ts p) (he:(qah ts p).2.err=0):A.V p.at_ (qah ts p).2.at_ (qah ts p).1:=by
 have hg:=qpq ht p h he
 unfold qah at he hg ⊢
 simp only at he hg ⊢
 have h1:=(qe ht h kVar).ok h
 have s2:=jl ht h1
 have h2:=s2.ok h1
 have s3:=qe ht h2 kOf
 have h3:=s3.ok h2
 have s4:=qav ht h3
 have h4:=s4.ok h3
 have key:∀ v:Int × Ps,(Step ts (numP ts (must ts (qd ts (must ts p kVar)) kOf)) v.2∧(v.2.err=0→-999999≤v.1∧v.1≤999999))→(must ts v.2 qj).err=0→p.at_<(must ts v.2 qj).at_→
   A.V p.at_ (must ts v.2 qj).at_ (.mk 2 [jn ts (must ts p kVar)] [numN ts (must ts (qd ts (must ts p kVar)) kOf),v.1] (tk ts p).pos []):=fun v hv hve hg=>by
  have e0:=(qe ht (hv.1.ok h4) qj).err0 hve
  have e1:=hv.1.err0 e0
  have n1:=qjj ht h3 e1
  have n2:=qgw (s3.err0 (s4.err0 e1))
  exact A.rVar n2.1 n1.1 n1.2.1 (hv.2 e0).1 (hv.2 e0).2 hg
 refine key _ ?_ he hg
 split
 ·have s6:=qh ht h4 (by assumption)
  split
  ·have s7:=qh ht (s6.ok h4) (by assumption)
   refine ⟨s6.trans (s7.trans (qav ht (s7.ok (s6.ok h4)))),fun e0=>?_⟩
   have:=qjj ht (s7.ok (s6.ok h4)) e0
   simp only;omega
  ·refine ⟨s6.trans (qav ht (s6.ok h4)),fun e0=>?_⟩
   have:=qjj ht (s6.ok h4) e0
   simp only;omega
 ·exact ⟨h4.refl,fun _=>by simp only;omega⟩
theorem jbs (i:Int):∀ (n:Nat) (l:List Tr) (p:Ps),AtOk ts p→Seq A.V i p.at_ l→(qai ts n l p).2.err=0→Seq A.V i (qai ts n l p).2.at_ (qai ts n l p).1
 | 0,l,p,_,h0,_=>by rw [qai];exact h0
 | n+1,l,p,h,h0,he=>by
  rw [qai] at he ⊢
  split
  ·rename_i hs
   rw [zb hs] at he
   have h1:=qkw ht _ h
   have h2:=qgr ht n (l++[(qah ts p).1]) _ (h1.ok h)
   have h3:=jbr ht A h (h2.err0 he)
   exact jbs i n _ _ (h1.ok h) (qnm h3 (zk _) (zk _) _ _ h0) he
  ·exact h0
theorem joh (h:AtOk ts p) (he:(qbu ts p).2.err=0):A.I p.at_ (qbu ts p).2.at_ (qbu ts p).1:=by
 have h0:=qe ht h qo
 unfold qbu at he ⊢
 simp only at he ⊢
 have h1:=h0.ok h
 have h3:=jl ht h1
 have h4:Step ts (qd ts (must ts p qo)) (if sees ts (qd ts (must ts p qo)) qbl=true then (numN ts (adv (qd ts (must ts p qo))),numP ts (adv (qd ts (must ts p qo)))) else (1,qd ts (must ts p qo))).2 ∧
   ((if sees ts (qd ts (must ts p qo)) qbl=true then (numN ts (adv (qd ts (must ts p qo))),numP ts (adv (qd ts (must ts p qo)))) else (1,qd ts (must ts p qo))).2.err=0→
    0≤(if sees ts (qd ts (must ts p qo)) qbl=true then (numN ts (adv (qd ts (must ts p qo))),numP ts (adv (qd ts (must ts p qo)))) else (1,qd ts (must ts p qo))).1 ∧
    (if sees ts (qd ts (must ts p qo)) qbl=true then (numN ts (adv (qd ts (must ts p qo))),numP ts (adv (qd ts (must ts p qo)))) else (1,qd ts (must ts p qo))).1≤999999):=by
  split
  ·have h5:=qh ht (h3.ok h1) (by assumption)
   refine ⟨h5.trans (qav ht (h5.ok (h3.ok h1))),fun e0=>?_⟩
   have:=qjj ht (h5.ok (h3.ok h1)) e0
   simp only;omega
  ·exact ⟨(h3.ok h1).refl,fun _=>by simp only;omega⟩
 generalize (if sees ts (qd ts (must ts p qo)) qbl=true then (numN ts (adv (qd ts (must ts p qo))),numP ts (adv (qd ts (must ts p qo)))) else (1,qd ts (must ts p qo)))=C at he h4 ⊢
 have hc:=h4.1.ok (h3.ok h1)
 have h5:=qe ht hc sLc
 have hlr:=(h3.trans (h4.1.trans h5)).le
 have hl0:=h0.le
 have hm:(must ts C.2 sLc).err=0→C.2.at_<(must ts C.2 sLc).at_:=fun e=>by have:=(qgc e).2;omega
 have hlc:=(h3.trans h4.1).le
 have hcr:=fun e=>h5.err0 e
 have hr:=h5.ok hc
 generalize must ts C.2 sLc=R at he h5 hr hm hlr hcr ⊢
 have h6:=qgr ht ts.length [] R hr
 have h7:=fun he=>jbs ht A R.at_ ts.length [] R hr (zk _) he
 generalize qai ts ts.length [] R=V at he h6 h7 ⊢
 have hv:=h6.ok hr
 have h8:=jt hv
 have h9:=qfc hv (qei ht (qhr ht) ts.length V.1 _ h8.1)
 have eV:=h9.err0 he
 have eR:=h6.err0 eV
 have eC:=hcr eR
 have hlo:=h8.1.lo
 obtain ⟨l2,h10,h11⟩:=quw ht A (qhr ht) (snd_s ht A) V.1 (inP ts V.2).at_ ts.length V.1 [] _ (zaq _).symm h8.1 (by omega) (zk _) he
 rw [h10]
 have hmr:=hm eR
 exact A.rProc (qgw (h4.1.err0 eC)).1 (h4.2 eC).1 (h4.2 eC).2 (by omega) (quu (by omega) _ _ (h7 eV)) h11 (zk _)
theorem joi (h:AtOk ts p) (he:(qax ts p).2.err=0):A.I p.at_ (qax ts p).2.at_ (qax ts p).1:=by
 have hg:=qtt ht p h he
 unfold qax at he hg ⊢
 simp only at he hg ⊢
 split
 ·rename_i hw
  rw [zb hw] at he
  exact A.rIVar (jbr ht A h he)
 rename_i hw
 rw [za hw] at he hg
 split
 ·rename_i hw
  rw [zb hw] at he
  exact joh ht A h he
 rename_i hw
 rw [za hw] at he hg
 split
 ·rename_i hw
  rw [zb hw] at he hg
  have h1:=(qh ht h hw).ok h
  have s2:=jl ht h1
  have h2:=s2.ok h1
  have s3:=qe ht h2 sLb
  have h3:=s3.ok h2
  have s4:=qav ht h3
  have h4:=s4.ok h3
  have s5:=qe ht h4 sRb
  have h5:=s5.ok h4
  have s6:=qe ht h5 kOf
  have h6:=s6.ok h5
  have s7:=qav ht h6
  have h7:=s7.ok h6
  have s8:=qdb ht h7 qfy
  have h8:=s8.ok h7
  have s9:=qdb ht h8 qfz
  have h9:=s9.ok h8
  have s10:=qe ht h9 qj
  have e7:=s8.err0 (s9.err0 (s10.err0 he))
  have e4:=s5.err0 (s6.err0 (s7.err0 e7))
  have n7:=qjj ht h6 e7
  have n4:=qjj ht h3 e4
  have n2:=qgw (s3.err0 (s4.err0 e4))
  exact A.rChan n2.1 n4.1 n4.2.1 n7.1 n7.2.1 (qnn _).1 (qnn _).2 (qnn _).1 (qnn _).2 hg
 rename_i hw
 rw [za hw] at he hg
 split
 ·rename_i hw
  rw [zb hw] at he
  have h1:=qh ht h hw
  have h2:=qas ht _ (h1.ok h)
  have h3:=qe ht (h2.ok (h1.ok h)) qj
  have h4:=qjk ht A (h1.ok h) (h3.err0 he)
  have e1:(adv p).at_=p.at_+1:=rfl
  exact A.rSafe (by omega) h4 h3.le
 rename_i hw
 rw [za hw] at he hg
 exact A.rDead hg
theorem jbt (i:Int):∀ (n:Nat) (l:List Tr) (p:Ps),AtOk ts p→Seq A.I i p.at_ l→(qcp ts n l p).2.err=0→Seq A.I i (qcp ts n l p).2.at_ (qcp ts n l p).1
 | 0,l,p,_,h0,_=>by rw [qcp];exact h0
 | n+1,l,p,h,h0,he=>by
  rw [qcp] at he ⊢
  split
  ·rename_i hs
   rw [zb hs] at he
   have h1:=qpp ht _ h
   have h2:=qnf ht n (l++[(qax ts p).1]) _ (h1.ok h)
   have h3:=joi ht A h (h2.err0 he)
   exact jbt i n _ _ (h1.ok h) (qnm h3 (zk _) (zk _) _ _ h0) he
  ·exact h0
theorem jbu (h:AtOk ts p) (he:(qaj ts p).2.err=0):∃ l,(qaj ts p).1=.mk 0 [] [] (posT ts p.at_) l∧Seq A.I p.at_ (qaj ts p).2.at_ l:=
 ⟨_,rfl,jbt ht A p.at_ ts.length [] p h (zk _) he⟩
end
end
end Pa
end Go.Proofs.Ythfaleaojlnnoaa
