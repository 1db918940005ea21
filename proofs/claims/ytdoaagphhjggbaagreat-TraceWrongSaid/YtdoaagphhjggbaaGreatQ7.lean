/- Some texts of the library, one behind the other. -/
import Derived.Test.YtdoaagphhjggbaaGreatQPa0
import Derived.Test.YtdoaagphhjggbaaGreatQ4
import Derived.Test.YtdoaagphhjggbaaGreatQ2
import Derived.Test.YtdoaagphhjggbaaGreatProg
import Derived.KernelRfl
section
namespace Go.Proofs.YtdoaagphhjggbaaGreat
namespace Pa
open Go Go.Sx
structure ToksOk (ts : List Lx.Tok) : Prop where
 len : ts.length ≤ 5000
 last : ∀ i, i < ts.length → ((ts.getD i Lx.tok0).kind = 3 ↔ i + 1 = ts.length)
 num : ∀ t ∈ ts, t.kind = 1 → t.s.length ≤ 6 ∧ ∀ b ∈ t.s, 48 ≤ b.toNat ∧ b.toNat ≤ 57
structure AtOk (ts : List Lx.Tok) (p : Ps) : Prop where
 lo : 0 ≤ p.at_
 hi : p.at_ < ts.length
structure Step (ts : List Lx.Tok) (p q : Ps) : Prop where
 le : p.at_ ≤ q.at_
 hi : q.at_ < ts.length
 deep : q.deep = p.deep
 err : p.err ≠ 0 → q = p
theorem jag (s : List UInt8) (b : UInt8) : qgq (s ++ [b]) = 10 * qgq s + ((b.toNat : Int) - 48) := by
 unfold qgq; rw [List.foldl_append]; rfl
theorem qud {s : List UInt8} (h : ∀ b ∈ s, 48 ≤ b.toNat ∧ b.toNat ≤ 57) : ∀ i, i ≤ s.length → 0 ≤ qgq (s.take i) ∧ qgq (s.take i) < 10 ^ i
 | 0, _ => by simp [qgq]
 | i + 1, hi => by
  have h1 := qud h i (by omega)
  rw [List.take_succ_eq_append_getElem (by omega), jag, Int.pow_succ]
  have h2 := h _ (List.getElem_mem (by omega : i < s.length))
  omega
section
variable {ts : List Lx.Tok} {p q r : Ps}
theorem jah (h : AtOk ts p) : tk ts p ∈ ts := by
 have h0 := h.lo
 have h1 := h.hi
 unfold tk
 rw [List.getD_eq_getElem?_getD, List.getElem?_eq_getElem (by omega)]
 exact List.getElem_mem _
theorem AtOk.refl (h : AtOk ts p) : Step ts p p := ⟨Int.le_refl _, h.hi, rfl, fun _ => rfl⟩
theorem Step.trans (h : Step ts p q) (k : Step ts q r) : Step ts p r :=
 ⟨Int.le_trans h.le k.le, k.hi, k.deep.trans h.deep, fun e => by have := h.err e; subst this; exact k.err e⟩
theorem Step.ok (h : AtOk ts p) (k : Step ts p q) : AtOk ts q := ⟨Int.le_trans h.lo k.le, k.hi⟩
theorem jmv {s : List UInt8} (h : sees ts p s = true) : p.err = 0 := by
 unfold sees at h
 simp only [Bool.and_eq_true, beq_iff_eq] at h
 exact h.1
theorem jmw {s : List UInt8} (h : sees ts p s = true) : (tk ts p).kind = 2 ∨ (tk ts p).kind = 0 := by
 unfold sees quc at h
 simp only [Bool.and_eq_true, Bool.or_eq_true, beq_iff_eq] at h
 rcases h.2.2 with h | h
 ·exact .inl h
 ·exact .inr h.1
theorem jmx (h : qhr ts p = true) : p.err = 0 := by
 unfold qhr at h; simp only [Bool.and_eq_true, beq_iff_eq] at h; exact h.2
theorem jmy (h : qgp ts p = true) : p.err = 0 := by
 unfold qgp at h; simp only [Bool.and_eq_true, beq_iff_eq] at h; exact h.2
variable (ht : ToksOk ts)
include ht
theorem jmz (h : AtOk ts p) (hk : (tk ts p).kind ≠ 3) : p.at_ + 1 < ts.length := by
 have h0 := h.lo
 have h1 := h.hi
 have h2 := ht.last p.at_.toNat (by omega)
 have h3 : ¬ (p.at_.toNat + 1 = ts.length) := fun e => hk (h2.2 e)
 omega
theorem que (h : AtOk ts p) (hk : (tk ts p).kind ≠ 3) (he : p.err = 0) : Step ts p (adv p) :=
 ⟨by show p.at_ ≤ p.at_ + 1; omega, jmz ht h hk, rfl, fun e => absurd he e⟩
theorem qg (h : AtOk ts p) {s : List UInt8} (hs : sees ts p s = true) : Step ts p (adv p) :=
 que ht h (by have := jmw hs; omega) (jmv hs)
omit ht in
theorem quf (h : AtOk ts p) (e : Int) : Step ts p (bad ts p e) := by
 unfold bad
 split
 ·rename_i he
  exact ⟨Int.le_refl _, h.hi, rfl, fun e => absurd he e⟩
 ·exact h.refl
theorem qhs (h : AtOk ts p) (s : List UInt8) : Step ts p (took ts p s) := by
 unfold took
 split
 ·exact qg ht h (by assumption)
 ·exact h.refl
theorem qj (h : AtOk ts p) (s : List UInt8) : Step ts p (must ts p s) := by
 unfold must
 split
 ·exact qg ht h (by assumption)
 ·exact quf h 11
theorem qao (h : AtOk ts p) : Step ts p (qe ts p) := by
 unfold qe
 split
 ·rename_i hn
  refine que ht h ?_ (jmx hn)
  unfold qhr at hn
  simp only [Bool.and_eq_true, beq_iff_eq] at hn
  omega
 ·exact quf h 11
theorem qbk (h : AtOk ts p) : Step ts p (numP ts p) := by
 unfold numP
 split
 ·rename_i hn
  refine que ht h ?_ (jmy hn)
  unfold qgp at hn
  simp only [Bool.and_eq_true, beq_iff_eq] at hn
  omega
 ·exact quf h 11
abbrev Runs (ts : List Lx.Tok) (f : Ps → Tr × Ps) : Prop := ∀ p, AtOk ts p → Step ts p (f p).2
theorem qkc {f : Ps → Tr × Ps} (hf : Runs ts f) {c : Ps → Bool} {sg : Ps → Int} (hc : ∀ p, c p = true → ∃ s, sees ts p s = true) : ∀ (n : Nat) (a : Tr) (p : Ps), AtOk ts p → Step ts p (qar f c sg n a p).2
 | 0, a, p, h => h.refl
 | n + 1, a, p, h => by
  rw [qar]
  split
  ·rename_i hcp
   obtain ⟨s, hs⟩ := hc p hcp
   have h1 := qg ht h hs
   have h2 := hf _ (h1.ok h)
   exact h1.trans (h2.trans (qkc hf hc n _ _ (h2.ok (h1.ok h))))
  ·exact h.refl
theorem jai {f : Ps → Tr × Ps} (hf : Runs ts f) (s : List UInt8) (sg : Int) : Runs ts (qlq ts f s sg) := fun p h => by
 have h1 := hf p h
 unfold qlq
 split
 ·rename_i hs
  have h2 := qg ht (h1.ok h) hs
  exact h1.trans (h2.trans (hf _ (h2.ok (h1.ok h))))
 ·exact h1
omit ht in
theorem jaj {p : Ps} (h : qdz ts p = true) : ∃ s, sees ts p s = true := by
 unfold qdz at h
 simp only [Bool.or_eq_true] at h
 rcases h with h | h | h <;> exact ⟨_, h⟩
omit ht in
theorem jak {p : Ps} (h : sumC ts p = true) : ∃ s, sees ts p s = true := by
 unfold sumC at h
 simp only [Bool.or_eq_true] at h
 rcases h with h | h <;> exact ⟨_, h⟩
section
variable {part : Ps → Tr × Ps} (hp : Runs ts part)
include hp
theorem qnu : Runs ts (qce ts part) := fun p h => (hp p h).trans (qkc ht hp (fun _ => jaj) _ _ _ ((hp p h).ok h))
theorem qug : Runs ts (sumF ts part) := fun p h => (qnu ht hp p h).trans (qkc ht (qnu ht hp) (fun _ => jak) _ _ _ ((qnu ht hp p h).ok h))
theorem quh : Runs ts (qcb ts part) := jai ht (qug ht hp) _ _
theorem qnv : Runs ts (qdk ts part) := jai ht (quh ht hp) _ _
theorem qnw : Runs ts (andF ts part) := fun p h => (qnv ht hp p h).trans (qkc ht (qnv ht hp) (fun _ h => ⟨_, h⟩) _ _ _ ((qnv ht hp p h).ok h))
theorem qqv : Runs ts (qea ts part) := fun p h => (qnw ht hp p h).trans (qkc ht (qnw ht hp) (fun _ h => ⟨_, h⟩) _ _ _ ((qnw ht hp p h).ok h))
end
omit ht in
theorem qcq (h : AtOk ts p) : AtOk ts (inP ts p) ∧ (inP ts p).at_ = p.at_ ∧ (inP ts p).deep = p.deep + 1 ∧ (p.err ≠ 0 → (inP ts p).err = p.err ∧ (inP ts p).fat = p.fat) := by
 unfold inP
 split
 ·unfold bad
  split
  ·rename_i he
   exact ⟨⟨h.lo, h.hi⟩, rfl, rfl, fun e => absurd he e⟩
  ·exact ⟨⟨h.lo, h.hi⟩, rfl, rfl, fun _ => ⟨rfl, rfl⟩⟩
 ·exact ⟨⟨h.lo, h.hi⟩, rfl, rfl, fun _ => ⟨rfl, rfl⟩⟩
omit ht in
theorem qiv (h : AtOk ts p) (hs : Step ts (inP ts p) q) : Step ts p (outP q) := by
 obtain ⟨h1, h2, h3, h4⟩ := qcq h
 refine ⟨by have := hs.le; show p.at_ ≤ q.at_; omega, hs.hi, by have := hs.deep; show q.deep - 1 = p.deep; omega, fun e => ?_⟩
 have h5 := h4 e
 have h6 := hs.err (by rw [h5.1]; exact e)
 subst h6
 show ({ (inP ts p) with deep := (inP ts p).deep - 1 } : Ps) = p
 rw [h3]
 cases p
 simp only [Ps.mk.injEq]
 exact ⟨h2, by simp, h5.1, h5.2⟩
omit ht in
theorem jna {f : Ps → Tr × Ps} (hf : Runs ts f) (h : AtOk ts p) : Step ts p (ifOk f p).2 := by
 unfold ifOk
 split
 ·exact hf p h
 ·exact h.refl
theorem qfr : ∀ n, Runs ts (qam ts n)
 | 0 => fun p h => h.refl
 | n + 1 => fun p h => by
  unfold qam
  simp only
  split
  ·exact qbk ht h
  split
  ·rename_i hs
   have h1 := qg ht h hs
   exact h1.trans (qao ht (h1.ok h))
  split
  ·rename_i hs
   have h1 : Step ts p (adv p) := by rcases hs with hs | hs <;> exact qg ht h hs
   exact h1.trans (qiv (h1.ok h) (jna (qfr n) (qcq (h1.ok h)).1))
  split
  ·rename_i hs
   have h1 := qg ht h hs
   have h2 := (qcq (h1.ok h)).1
   have h3 : Step ts (adv p) (outP (if (inP ts (adv p)).err = 0 then (qea ts (qam ts n) (inP ts (adv p))).2 else inP ts (adv p))) := by
    refine qiv (h1.ok h) ?_
    split
    ·exact qqv ht (qfr n) _ h2
    ·exact h2.refl
   exact h1.trans (h3.trans (qj ht (h3.ok (h1.ok h)) _))
  ·exact qao ht h
theorem qbf : Runs ts (eF ts) := qqv ht (qfr ht _)
section
variable {stat : Ps → Tr × Ps} (hs : Runs ts stat)
include hs
theorem qgs : ∀ (n : Nat) (l : List Tr) (p : Ps), AtOk ts p → Step ts p (jj ts stat n l p).2
 | 0, l, p, h => h.refl
 | n + 1, l, p, h => by
  rw [jj]
  split
  ·split
   ·exact qg ht h (by assumption)
   ·exact (hs p h).trans (qgs n _ _ ((hs p h).ok h))
  ·exact h.refl
theorem qqw : Runs ts (qt ts stat) := fun p h => by
 have h1 := qj ht h sLc
 exact h1.trans (qiv (h1.ok h) (qgs ht hs _ _ _ (qcq (h1.ok h)).1))
end
theorem qnx {blk : Ps → Tr × Ps} (hb : Runs ts blk) : ∀ (n : Nat) (l : List Tr) (p : Ps), AtOk ts p → Step ts p (orL ts blk n l p).2
 | 0, l, p, h => h.refl
 | n + 1, l, p, h => by
  rw [orL]
  split
  ·have h1 := qg ht h (by assumption)
   have h2 := hb _ (h1.ok h)
   exact h1.trans (h2.trans (qnx hb n _ _ (h2.ok (h1.ok h))))
  ·exact h.refl
theorem jnb {blk : Ps → Tr × Ps} (hb : Runs ts blk) (a i : Int) : Runs ts (qdl ts blk a i) := fun p h => by
 unfold qdl
 split
 ·have h1 := qg ht h (by assumption)
  have h2 := qao ht (h1.ok h)
  have h3 := qao ht (h2.ok (h1.ok h))
  exact h1.trans (h2.trans (h3.trans (qj ht (h3.ok (h2.ok (h1.ok h))) _)))
 split
 ·have h1 := qg ht h (by assumption)
  have h2 := qbf ht _ (h1.ok h)
  exact h1.trans (h2.trans (qj ht (h2.ok (h1.ok h)) _))
 ·have h1 := qj ht h je
  have h2 := hb _ (h1.ok h)
  exact h1.trans (h2.trans (qnx ht hb _ _ _ (h2.ok (h1.ok h))))
theorem qkd : ∀ n, Runs ts (qd ts n)
 | 0 => fun p h => h.refl
 | n + 1 => fun p h => by
  have hb := qqw ht (qkd n)
  unfold qd
  simp only
  split
  ·have h1 := qhs ht h qdy
   exact h1.trans (jnb ht hb _ _ _ (h1.ok h))
  split
  ·have h1 := qg ht h (by assumption)
   have h2 := qao ht (h1.ok h)
   have h3 := qbf ht _ (h2.ok (h1.ok h))
   exact h1.trans (h2.trans (h3.trans (qj ht (h3.ok (h2.ok (h1.ok h))) _)))
  split
  ·have h1 := qg ht h (by assumption)
   have h2 := qbf ht _ (h1.ok h)
   have h3 := hb _ (h2.ok (h1.ok h))
   have h4 := h1.trans (h2.trans h3)
   split
   ·have h5 := qg ht (h4.ok h) (by assumption)
    exact h4.trans (h5.trans (hb _ (h5.ok (h4.ok h))))
   ·exact h4
  split
  ·have h1 := qg ht h (by assumption)
   have h2 := qbf ht _ (h1.ok h)
   exact h1.trans (h2.trans (hb _ (h2.ok (h1.ok h))))
  split
  ·have h1 := qg ht h (by assumption)
   exact h1.trans (hb _ (h1.ok h))
  split
  ·have h1 := qg ht h (by assumption)
   exact h1.trans (qj ht (h1.ok h) _)
  split
  ·have h1 := qg ht h (by assumption)
   exact h1.trans (qj ht (h1.ok h) _)
  ·have h1 := qao ht h
   have h2 := qj ht (h1.ok h) sEq
   have h3 := qbf ht _ (h2.ok (h1.ok h))
   exact h1.trans (h2.trans (h3.trans (qj ht (h3.ok (h2.ok (h1.ok h))) _)))
theorem qiw : Runs ts (sF ts) := qkd ht _
theorem qls : Runs ts (jt ts) := fun p h => by
 unfold jt
 simp only
 have h1 := qj ht h kVar
 have h2 := qao ht (h1.ok h)
 have h3 := h1.trans h2
 have h4 := h3.trans (qj ht (h3.ok h) kOf)
 have h5 := h4.trans (qbk ht (h4.ok h))
 split
 ·have h6 := h5.trans (qg ht (h5.ok h) (by assumption))
  split
  ·have h7 := h6.trans (qg ht (h6.ok h) (by assumption))
   have h8 := h7.trans (qbk ht (h7.ok h))
   exact h8.trans (qj ht (h8.ok h) _)
  ·have h8 := h6.trans (qbk ht (h6.ok h))
   exact h8.trans (qj ht (h8.ok h) _)
 ·exact h5.trans (qj ht (h5.ok h) _)
theorem qny : ∀ (n : Nat) (l : List Tr) (p : Ps), AtOk ts p → Step ts p (qbr ts n l p).2
 | 0, l, p, h => h.refl
 | n + 1, l, p, h => by
  rw [qbr]
  split
  ·have h2 := qls ht _ h
   exact h2.trans (qny n _ _ (h2.ok h))
  ·exact h.refl
theorem jnc : Runs ts (qdm ts) := fun p h => by
 unfold qdm
 simp only
 have h1 := qj ht h qz
 have h3 := h1.trans (qao ht (h1.ok h))
 have h4 : Step ts p (if sees ts (qe ts (must ts p qz)) qfq = true then (numN ts (adv (qe ts (must ts p qz))), numP ts (adv (qe ts (must ts p qz)))) else (1, qe ts (must ts p qz))).2 := by
  split
  ·have h5 := h3.trans (qg ht (h3.ok h) (by assumption))
   exact h5.trans (qbk ht (h5.ok h))
  ·exact h3
 have h5 := h4.trans (qj ht (h4.ok h) sLc)
 have h6 := h5.trans (qny ht ts.length [] _ (h5.ok h))
 exact h6.trans (qiv (h6.ok h) (qgs ht (qiw ht) _ _ _ (qcq (h6.ok h)).1))
theorem qui : Runs ts (itemF ts) := fun p h => by
 unfold itemF
 simp only
 split
 ·exact qls ht _ h
 split
 ·exact jnc ht _ h
 split
 ·have h1 := qg ht h (by assumption)
  have h2 := h1.trans (qao ht (h1.ok h))
  have h3 := h2.trans (qj ht (h2.ok h) sLb)
  have h4 := h3.trans (qbk ht (h3.ok h))
  have h5 := h4.trans (qj ht (h4.ok h) sRb)
  have h6 := h5.trans (qj ht (h5.ok h) kOf)
  have h7 := h6.trans (qbk ht (h6.ok h))
  have h8 := h7.trans (qhs ht (h7.ok h) qhq)
  have h9 := h8.trans (qhs ht (h8.ok h) qit)
  exact h9.trans (qj ht (h9.ok h) _)
 split
 ·have h1 := qg ht h (by assumption)
  have h2 := h1.trans (qbf ht _ (h1.ok h))
  exact h2.trans (qj ht (h2.ok h) _)
 ·have h1 := qj ht h qlp
  exact h1.trans (qj ht (h1.ok h) _)
theorem quj : ∀ (n : Nat) (l : List Tr) (p : Ps), AtOk ts p → Step ts p (qdn ts n l p).2
 | 0, l, p, h => h.refl
 | n + 1, l, p, h => by
  rw [qdn]
  split
  ·have h2 := qui ht _ h
   exact h2.trans (quj n _ _ (h2.ok h))
  ·exact h.refl
end
end Pa
end Go.Proofs.YtdoaagphhjggbaaGreat
end
section
namespace Go.Proofs.YtdoaagphhjggbaaGreat
open List renaming getD_eq_getElem?_getD → zd
open Go Go.Sx Go.RowKit Go.St
set_option maxRecDepth 100000
set_option maxHeartbeats 2000000
abbrev bv (n : Int) : AV := .int .u8 n
theorem jal (c : Int) : Con Tryz.prog 92 [bv c] (.bool (decide (48 ≤ c) && decide (c ≤ 57))) := by
 refine zK {} 300 Tryz.func92 (fun c0 rdb => ?_)
 (repeat' ((conv => whnf); first | refine Ob.auto ?_ | fail))
 exact Le.refl _
theorem quk (c : Int) : Con Tryz.prog 90 [bv c] (.bool (qnh c)) := by
 refine zK {} 300 Tryz.func90 (fun c0 rdb => ?_)
 (repeat' ((conv => whnf); first | refine Ob.auto ?_ | fail))
 exact Le.refl _
theorem jam (c : Int) : Con Tryz.prog 91 [bv c] (.bool (qni c)) := by
 refine zK {} 300 Tryz.func91 (fun c0 rdb => ?_)
 (repeat' ((conv => whnf); first | refine Ob.auto ?_ | refine zC 300 (quk c) ?_ | refine zG 300 (fun hg => jal c) ?_ | fail))
 exact Le.refl _
theorem jnd (f : Nat → List AV) (h : ∀ i, i < 21 → f i = encL (fun s => [.str s]) [] keyL i) : Le (.slc 1 21 f) (strs keyL) := Le.slc rfl h
theorem jan (s : List UInt8) : Con Tryz.prog 136 [.str s] (.bool (keyF s)) := by
 refine zK {} 300 Tryz.func136 (fun c0 rdb => ?_)
 ((conv => whnf); refine qo (fun _ => rfl) 300 1 (fun i : Nat => [(4, iv i), (3, strs keyL)]) (fun _ => []) (fun i => i ≤ keyL.length ∧ ∀ j, j < i → (keyL.getD j [] == s) = false) (fun i => keyL.length - i) (0) (⟨by omega, fun j hj => absurd hj (Nat.not_lt_zero j)⟩) ⟨Le.refl _, jnd _ (fun i hi => match i, hi with | 0, _ => rfl | 1, _ => rfl | 2, _ => rfl | 3, _ => rfl | 4, _ => rfl | 5, _ => rfl | 6, _ => rfl | 7, _ => rfl | 8, _ => rfl | 9, _ => rfl | 10, _ => rfl | 11, _ => rfl | 12, _ => rfl | 13, _ => rfl | 14, _ => rfl | 15, _ => rfl | 16, _ => rfl | 17, _ => rfl | 18, _ => rfl | 19, _ => rfl | 20, _ => rfl | n + 21, h => absurd h (by omega)), trivial⟩ qa (fun _ => rfl) (by kernel_rfl) ?_; (conv => whnf))
 intro i hi
 have h21 : keyL.length = 21 := rfl
 (repeat' ((conv => whnf); first | refine Ob.auto ?_ | (apply zB <;> intro hb <;> (try simp [-zd] at hb) <;> try (exfalso; omega))))
 ·refine Le.of_eq (congrArg AV.bool ?_)
  unfold keyF
  exact (List.any_eq_true.2 ⟨keyL.getD i [], ql keyL i [] (by omega), by simpa using hb⟩).symm
 ·((conv => whnf); refine ⟨i + 1, ⟨by omega, jz hi.2 (beq_eq_false_iff_ne.2 hb)⟩, ⟨qa, qa⟩, ⟨qa, qa⟩, ?_⟩; (first | omega | (dsimp only; omega) | skip))
 ·refine Le.of_eq (congrArg AV.bool ?_)
  unfold keyF
  rw [eq_comm, Bool.eq_false_iff]
  intro h
  obtain ⟨x, hx, he⟩ := List.any_eq_true.1 h
  obtain ⟨j, hj, rfl⟩ := List.mem_iff_getElem.1 hx
  have := hi.2 j (by omega)
  rw [zd, List.getElem?_eq_getElem hj] at this
  simp only [Option.getD_some] at this
  rw [this] at he; cases he
theorem jao (s : List UInt8) : Con Tryz.prog 135 [.str s] (.bool (nameF s)) := by
 refine zK {} 300 Tryz.func135 (fun c0 rdb => ?_)
 (repeat' ((conv => whnf); first | refine Ob.auto ?_ | (refine Ob.intro (by ((intro h; simp at h ⊢; exact ⟨h, by have := List.length_pos_iff.2 h.1; omega⟩))) ?_) | refine zG 300 (fun hg => quk _) ?_ | refine zG 300 (fun hg => jan s) ?_ | (apply zB <;> intro hb <;> (try simp [-zd] at hb) <;> try (exfalso; omega))))
 ·refine Le.of_eq (congrArg AV.bool ?_)
  unfold nameF
  have : (decide (s.length = 0) || decide (12 < s.length) || !qnh (qax s 0) || keyF s) = true := by
   simp only [Bool.or_eq_true, decide_eq_true_eq, List.length_eq_zero_iff, Bool.not_eq_true']
   rcases hb with ((hb | hb) | hb) | hb
   ·exact .inl (.inl (.inl hb))
   ·exact .inl (.inl (.inr (by omega)))
   ·exact .inl (.inr hb)
   ·exact .inr hb
  rw [this]; rfl
 ·have h0 : (decide (s.length = 0) || decide (12 < s.length) || !qnh (qax s 0) || keyF s) = false := by
   simp only [Bool.or_eq_false_iff, decide_eq_false_iff_not, List.length_eq_zero_iff, Bool.not_eq_false']
   exact ⟨⟨⟨hb.1.1.1, by omega⟩, hb.1.2⟩, hb.2⟩
  ((conv => whnf); refine qo (fun _ => rfl) 300 1 (fun i : Nat => [(3, iv i)]) (fun _ => []) (fun i => i ≤ s.length ∧ ∀ j, j < i → qni (qax s j) = true) (fun i => s.length - i) (0) (⟨by omega, fun j hj => absurd hj (Nat.not_lt_zero j)⟩) qa qa (fun _ => rfl) (by kernel_rfl) ?_; (conv => whnf))
  intro i hi
  (repeat' ((conv => whnf); first | refine Ob.auto ?_ | refine zC 300 (jam _) ?_ | (apply zB <;> intro hb <;> (try simp [-zd] at hb) <;> try (exfalso; omega))))
  ·refine Le.of_eq (congrArg AV.bool ?_)
   unfold nameF
   rw [h0, qqs (q := fun i => qni (qax s i)) (i := i) (by omega) hb]; rfl
  ·((conv => whnf); refine ⟨i + 1, ⟨by omega, jz hi.2 hb⟩, ⟨qa, qa⟩, ⟨qa, qa⟩, ?_⟩; (first | omega | (dsimp only; omega) | skip))
  ·refine Le.of_eq (congrArg AV.bool ?_)
   unfold nameF
   rw [h0, qjz (q := fun i => qni (qax s i)) (fun j hj => hi.2 j (by omega))]; rfl
theorem qul (k a b : Int) : Con Tryz.prog 105 [iv k, iv a, iv b] (.bool (inK k a b)) := by
 refine zK {} 300 Tryz.func105 (fun c0 rdb => ?_)
 (repeat' ((conv => whnf); first | refine Ob.auto ?_ | fail))
 exact Le.refl _
theorem qum (l : List Nd) (n : Nd) (i : Int) (h0 : 0 ≤ i) (h1 : i < n.kids.length) (hk : ∀ k ∈ n.kids, 0 ≤ k ∧ k < l.length) : Con Tryz.prog 106 [jq l, .agg n.cells, iv i] (iv (kidK l n i.toNat)) := by
 have hki := hk _ (ql n.kids i.toNat 0 (by omega))
 refine zK {} 300 Tryz.func106 (fun c0 rdb => ?_)
 (repeat' ((conv => whnf); first | refine Ob.auto ?_ | fail))
 exact Le.refl _
theorem jap (n : Nd) (hn : NdSz n) (c most : Int) : Con Tryz.prog 103 [.agg n.cells, iv c, iv most] (.bool (numsB n c most)) := by
 have hl := hn.ln
 refine zK {} 300 Tryz.func103 (fun c0 rdb => ?_)
 ((conv => whnf); refine qo (fun _ => rfl) 300 1 (fun i : Nat => [(7, iv i)]) (fun _ => []) (fun i => i ≤ n.nums.length ∧ ∀ j, j < i → (decide (0 ≤ n.nums.getD j 0) && decide (n.nums.getD j 0 ≤ most)) = true) (fun i => n.nums.length - i) (0) (⟨by omega, fun j hj => absurd hj (Nat.not_lt_zero j)⟩) qa qa (fun _ => rfl) (by kernel_rfl) ?_; (conv => whnf))
 intro i hi
 (repeat' ((conv => whnf); first | refine Ob.auto ?_ | (apply zB <;> intro hb <;> (try simp [-zd] at hb) <;> try (exfalso; omega))))
 ·refine Le.of_eq (congrArg AV.bool ?_)
  unfold numsB
  rw [qqr (q := fun x => decide (0 ≤ x) && decide (x ≤ most)) 0 (j := i) (by omega) (by simp only [Bool.and_eq_false_iff, decide_eq_false_iff_not]; omega)]; rfl
 ·((conv => whnf); refine ⟨i + 1, ⟨by omega, jz hi.2 (by simp only [Bool.and_eq_true, decide_eq_true_eq]; omega)⟩, ⟨qa, qa⟩, ⟨qa, qa⟩, ?_⟩; (first | omega | (dsimp only; omega) | skip))
 ·refine Le.of_eq (congrArg AV.bool ?_)
  unfold numsB
  rw [qqq (q := fun x => decide (0 ≤ x) && decide (x ≤ most)) 0 (fun j hj => hi.2 j (by omega))]; rfl
theorem jaq (n : Nd) (hn : NdSz n) (c : Int) : Con Tryz.prog 102 [.agg n.cells, iv c] (.bool (wordsB n c)) := by
 have hl := hn.lw
 refine zK {} 300 Tryz.func102 (fun c0 rdb => ?_)
 ((conv => whnf); refine qo (fun _ => rfl) 300 1 (fun i : Nat => [(5, iv i)]) (fun _ => []) (fun i => i ≤ n.words.length ∧ ∀ j, j < i → nameF (n.words.getD j []) = true) (fun i => n.words.length - i) (0) (⟨by omega, fun j hj => absurd hj (Nat.not_lt_zero j)⟩) qa qa (fun _ => rfl) (by kernel_rfl) ?_; (conv => whnf))
 intro i hi
 (repeat' ((conv => whnf); first | refine Ob.auto ?_ | refine zC 300 (jao _) ?_ | (apply zB <;> intro hb <;> (try simp [-zd] at hb) <;> try (exfalso; omega))))
 ·refine Le.of_eq (congrArg AV.bool ?_)
  unfold wordsB
  rw [qqr (q := nameF) [] (j := i) (by omega) hb]; rfl
 ·((conv => whnf); refine ⟨i + 1, ⟨by omega, jz hi.2 hb⟩, ⟨qa, qa⟩, ⟨qa, qa⟩, ?_⟩; (first | omega | (dsimp only; omega) | skip))
 ·refine Le.of_eq (congrArg AV.bool ?_)
  unfold wordsB
  rw [qqq (q := nameF) [] (fun j hj => hi.2 j (by omega))]; rfl
theorem jar (l : List Nd) (n : Nd) (hn : NdSz n) (hk : ∀ k ∈ n.kids, 0 ≤ k ∧ k < l.length) (frm : Nat) (hf : frm ≤ n.kids.length) (a b : Int) : Con Tryz.prog 104 [jq l, .agg n.cells, iv frm, iv a, iv b] (.bool (allB l n frm a b)) := by
 have hl := hn.lk
 refine zK {} 300 Tryz.func104 (fun c0 rdb => ?_)
 ((conv => whnf); refine qo (fun _ => rfl) 300 1 (fun i : Nat => [(11, iv i)]) (fun _ => []) (fun i => (frm ≤ i ∧ i ≤ n.kids.length) ∧ ∀ j, j < i → (decide (j < frm) || inK (kidK l n j) a b) = true) (fun i => n.kids.length - i) (frm) (⟨by omega, fun j hj => by simp [hj]⟩) qa qa (fun _ => rfl) (by kernel_rfl) ?_; (conv => whnf))
 intro i hi
 (repeat' ((conv => whnf); first | refine Ob.auto ?_ | refine zC 300 (qum l n i (by omega) (by omega) hk) ?_ | refine zC 300 (qul _ _ _) ?_ | (apply zB <;> intro hb <;> (try simp [-zd] at hb) <;> try (exfalso; omega))))
 ·refine Le.of_eq (congrArg AV.bool ?_)
  exact (qqs (i := i) (by omega) (by simp only [Bool.or_eq_false_iff, decide_eq_false_iff_not]; exact ⟨by omega, hb⟩)).symm
 ·((conv => whnf); refine ⟨i + 1, ⟨by omega, jz hi.2 (by rw [Bool.or_eq_true]; exact .inr hb)⟩, ⟨qa, qa⟩, ⟨qa, qa⟩, ?_⟩; (first | omega | (dsimp only; omega) | skip))
 ·refine Le.of_eq (congrArg AV.bool ?_)
  exact (qjz (fun j hj => hi.2 j (by omega))).symm
theorem jne (l : List Nd) (n : Nd) (hn : NdSz n) (hk : ∀ k ∈ n.kids, 0 ≤ k ∧ k < l.length) (first least most : Int) (hf : (0 ≤ first ∧ first ≤ 100000) ∧ (0 ≤ least ∧ least ≤ 100000) ∧ (0 ≤ most ∧ most ≤ 100000)) : Con Tryz.prog 107 [jq l, .agg n.cells, iv first, iv least, iv most] (.bool (exprsB l n first least most)) := by
 have hl := hn.lk
 refine zK {} 300 Tryz.func107 (fun c0 rdb => ?_)
 ((conv => whnf); refine qo (fun _ => rfl) 300 1 (fun i : Nat => [(12, iv i)]) (fun _ => []) (fun i => i ≤ n.kids.length ∧ ∀ j, j < i → (!(decide ((j : Int) < first) && !inK (kidK l n j) 17 22 || decide (first ≤ (j : Int)) && kidK l n j != 16)) = true) (fun i => n.kids.length - i) (0) (⟨by omega, fun j hj => absurd hj (Nat.not_lt_zero j)⟩) qa qa (fun _ => rfl) (by kernel_rfl) ?_; (conv => whnf))
 intro i hi
 (repeat' ((conv => whnf); first | refine Ob.auto ?_ | refine zG 300 (fun hg => qum l n i (by omega) (by omega) hk) ?_ | refine zG 300 (fun hg => qul _ _ _) ?_ | (apply zB <;> intro hb <;> (try simp [-zd] at hb) <;> try (exfalso; omega))))
 ·refine Le.of_eq (congrArg AV.bool ?_)
  unfold exprsB
  rw [qqs (i := i) (by omega) (by
   simp only [Bool.not_eq_false', Bool.or_eq_true, Bool.and_eq_true, decide_eq_true_eq, Bool.not_eq_true', bne_iff_ne, ne_eq]
   exact hb)]; rfl
 ·((conv => whnf); refine ⟨i + 1, ⟨by omega, jz hi.2 (by
   simp only [Bool.not_eq_true', Bool.or_eq_false_iff, Bool.and_eq_false_imp, decide_eq_true_eq, Bool.not_eq_false', bne_eq_false_iff_eq]
   exact hb)⟩, ⟨qa, qa⟩, ⟨qa, qa⟩, ?_⟩; (first | omega | (dsimp only; omega) | skip))
 ·refine Le.of_eq (congrArg AV.bool ?_)
  unfold exprsB
  rw [qjz (fun j hj => hi.2 j (by omega))]; rfl
end Go.Proofs.YtdoaagphhjggbaaGreat
end
