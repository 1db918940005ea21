/- Some texts of the library, one behind the other. -/
import Derived.Test.YtdoaagphhjggbaaQPa0
import Derived.Test.YtdoaagphhjggbaaQ4
import Derived.Test.YtdoaagphhjggbaaQ2
import Derived.Test.YtdoaagphhjggbaaProg
import Derived.KernelRfl
import Derived.Test.YtdoaagphhjggbaaQLexPlain
section
/- The document's parser in plain Lean: it goes on, and keeps how deep it is. -/
namespace Go.Proofs.Ytdoaagphhjggbaa
namespace Pa
open Go Go.Sx

structure ToksOk (ts : List Lx.Tok) : Prop where
 len : ts.length ≤ 5000
 last : ∀ i, i < ts.length → ((ts.getD i Lx.tok0).kind = 3 ↔ i + 1 = ts.length)
 num : ∀ t ∈ ts, t.kind = 1 → t.s.length ≤ 6 ∧ ∀ b ∈ t.s, 48 ≤ b.toNat ∧ b.toNat ≤ 57

structure AtOk (ts : List Lx.Tok) (p : Ps) : Prop where
 lo : 0 ≤ p.at_
 hi : p.at_ < ts.length

structure Step (ts : List Lx.Tok) (p q : Ps) : Prop where
 le : p.at_ ≤ q.at_
 hi : q.at_ < ts.length
 deep : q.deep = p.deep
 err : p.err ≠ 0 → q = p

theorem qzk (s : List UInt8) (b : UInt8) : qgl (s ++ [b]) = 10 * qgl s + ((b.toNat : Int) - 48) := by
 unfold qgl; rw [List.foldl_append]; rfl

theorem qty {s : List UInt8} (h : ∀ b ∈ s, 48 ≤ b.toNat ∧ b.toNat ≤ 57) : ∀ i, i ≤ s.length → 0 ≤ qgl (s.take i) ∧ qgl (s.take i) < 10 ^ i
 | 0, _ => by simp [qgl]
 | i + 1, hi => by
  have h1 := qty h i (by omega)
  rw [List.take_succ_eq_append_getElem (by omega), qzk, Int.pow_succ]
  have h2 := h _ (List.getElem_mem (by omega : i < s.length))
  omega

section
variable {ts : List Lx.Tok} {p q r : Ps}

theorem qzl (h : AtOk ts p) : tk ts p ∈ ts := by
 have h0 := h.lo
 have h1 := h.hi
 unfold tk
 rw [List.getD_eq_getElem?_getD, List.getElem?_eq_getElem (by omega)]
 exact List.getElem_mem _

theorem AtOk.refl (h : AtOk ts p) : Step ts p p := ⟨Int.le_refl _, h.hi, rfl, fun _ => rfl⟩
theorem Step.trans (h : Step ts p q) (k : Step ts q r) : Step ts p r :=
 ⟨Int.le_trans h.le k.le, k.hi, k.deep.trans h.deep, fun e => by have := h.err e; subst this; exact k.err e⟩
theorem Step.ok (h : AtOk ts p) (k : Step ts p q) : AtOk ts q := ⟨Int.le_trans h.lo k.le, k.hi⟩

theorem jkp {s : List UInt8} (h : sees ts p s = true) : p.err = 0 := by
 unfold sees at h
 simp only [Bool.and_eq_true, beq_iff_eq] at h
 exact h.1
theorem jkq {s : List UInt8} (h : sees ts p s = true) : (tk ts p).kind = 2 ∨ (tk ts p).kind = 0 := by
 unfold sees qtx at h
 simp only [Bool.and_eq_true, Bool.or_eq_true, beq_iff_eq] at h
 rcases h.2.2 with h | h
 ·exact .inl h
 ·exact .inr h.1
theorem jkr (h : qhh ts p = true) : p.err = 0 := by
 unfold qhh at h; simp only [Bool.and_eq_true, beq_iff_eq] at h; exact h.2
theorem jks (h : qgk ts p = true) : p.err = 0 := by
 unfold qgk at h; simp only [Bool.and_eq_true, beq_iff_eq] at h; exact h.2

variable (ht : ToksOk ts)
include ht

theorem jkt (h : AtOk ts p) (hk : (tk ts p).kind ≠ 3) : p.at_ + 1 < ts.length := by
 have h0 := h.lo
 have h1 := h.hi
 have h2 := ht.last p.at_.toNat (by omega)
 have h3 : ¬ (p.at_.toNat + 1 = ts.length) := fun e => hk (h2.2 e)
 omega

theorem qtz (h : AtOk ts p) (hk : (tk ts p).kind ≠ 3) (he : p.err = 0) : Step ts p (adv p) :=
 ⟨by show p.at_ ≤ p.at_ + 1; omega, jkt ht h hk, rfl, fun e => absurd he e⟩

theorem qh (h : AtOk ts p) {s : List UInt8} (hs : sees ts p s = true) : Step ts p (adv p) :=
 qtz ht h (by have := jkq hs; omega) (jkp hs)

omit ht in
theorem qua (h : AtOk ts p) (e : Int) : Step ts p (bad ts p e) := by
 unfold bad
 split
 ·rename_i he
  exact ⟨Int.le_refl _, h.hi, rfl, fun e => absurd he e⟩
 ·exact h.refl

theorem qhi (h : AtOk ts p) (s : List UInt8) : Step ts p (took ts p s) := by
 unfold took
 split
 ·exact qh ht h (by assumption)
 ·exact h.refl

theorem qk (h : AtOk ts p) (s : List UInt8) : Step ts p (must ts p s) := by
 unfold must
 split
 ·exact qh ht h (by assumption)
 ·exact qua h 11

theorem qas (h : AtOk ts p) : Step ts p (qf ts p) := by
 unfold qf
 split
 ·rename_i hn
  refine qtz ht h ?_ (jkr hn)
  unfold qhh at hn
  simp only [Bool.and_eq_true, beq_iff_eq] at hn
  omega
 ·exact qua h 11

theorem qbn (h : AtOk ts p) : Step ts p (numP ts p) := by
 unfold numP
 split
 ·rename_i hn
  refine qtz ht h ?_ (jks hn)
  unfold qgk at hn
  simp only [Bool.and_eq_true, beq_iff_eq] at hn
  omega
 ·exact qua h 11

abbrev Runs (ts : List Lx.Tok) (f : Ps → Tr × Ps) : Prop := ∀ p, AtOk ts p → Step ts p (f p).2

theorem qjr {f : Ps → Tr × Ps} (hf : Runs ts f) {c : Ps → Bool} {sg : Ps → Int} (hc : ∀ p, c p = true → ∃ s, sees ts p s = true) : ∀ (n : Nat) (a : Tr) (p : Ps), AtOk ts p → Step ts p (qav f c sg n a p).2
 | 0, a, p, h => h.refl
 | n + 1, a, p, h => by
  rw [qav]
  split
  ·rename_i hcp
   obtain ⟨s, hs⟩ := hc p hcp
   have h1 := qh ht h hs
   have h2 := hf _ (h1.ok h)
   exact h1.trans (h2.trans (qjr hf hc n _ _ (h2.ok (h1.ok h))))
  ·exact h.refl

theorem qzm {f : Ps → Tr × Ps} (hf : Runs ts f) (s : List UInt8) (sg : Int) : Runs ts (qlf ts f s sg) := fun p h => by
 have h1 := hf p h
 unfold qlf
 split
 ·rename_i hs
  have h2 := qh ht (h1.ok h) hs
  exact h1.trans (h2.trans (hf _ (h2.ok (h1.ok h))))
 ·exact h1

omit ht in
theorem qzn {p : Ps} (h : qdz ts p = true) : ∃ s, sees ts p s = true := by
 unfold qdz at h
 simp only [Bool.or_eq_true] at h
 rcases h with h | h | h <;> exact ⟨_, h⟩
omit ht in
theorem qzo {p : Ps} (h : sumC ts p = true) : ∃ s, sees ts p s = true := by
 unfold sumC at h
 simp only [Bool.or_eq_true] at h
 rcases h with h | h <;> exact ⟨_, h⟩

section
variable {part : Ps → Tr × Ps} (hp : Runs ts part)
include hp
theorem qok : Runs ts (qch ts part) := fun p h => (hp p h).trans (qjr ht hp (fun _ => qzn) _ _ _ ((hp p h).ok h))
theorem qub : Runs ts (sumF ts part) := fun p h => (qok ht hp p h).trans (qjr ht (qok ht hp) (fun _ => qzo) _ _ _ ((qok ht hp p h).ok h))
theorem quc : Runs ts (qcc ts part) := qzm ht (qub ht hp) _ _
theorem qol : Runs ts (qdo ts part) := qzm ht (quc ht hp) _ _
theorem qom : Runs ts (andF ts part) := fun p h => (qol ht hp p h).trans (qjr ht (qol ht hp) (fun _ h => ⟨_, h⟩) _ _ _ ((qol ht hp p h).ok h))
theorem qqy : Runs ts (qea ts part) := fun p h => (qom ht hp p h).trans (qjr ht (qom ht hp) (fun _ h => ⟨_, h⟩) _ _ _ ((qom ht hp p h).ok h))
end

omit ht in
theorem qct (h : AtOk ts p) : AtOk ts (inP ts p) ∧ (inP ts p).at_ = p.at_ ∧ (inP ts p).deep = p.deep + 1 ∧ (p.err ≠ 0 → (inP ts p).err = p.err ∧ (inP ts p).fat = p.fat) := by
 unfold inP
 split
 ·unfold bad
  split
  ·rename_i he
   exact ⟨⟨h.lo, h.hi⟩, rfl, rfl, fun e => absurd he e⟩
  ·exact ⟨⟨h.lo, h.hi⟩, rfl, rfl, fun _ => ⟨rfl, rfl⟩⟩
 ·exact ⟨⟨h.lo, h.hi⟩, rfl, rfl, fun _ => ⟨rfl, rfl⟩⟩

omit ht in
theorem qik (h : AtOk ts p) (hs : Step ts (inP ts p) q) : Step ts p (outP q) := by
 obtain ⟨h1, h2, h3, h4⟩ := qct h
 refine ⟨by have := hs.le; show p.at_ ≤ q.at_; omega, hs.hi, by have := hs.deep; show q.deep - 1 = p.deep; omega, fun e => ?_⟩
 have h5 := h4 e
 have h6 := hs.err (by rw [h5.1]; exact e)
 subst h6
 show ({ (inP ts p) with deep := (inP ts p).deep - 1 } : Ps) = p
 rw [h3]
 cases p
 simp only [Ps.mk.injEq]
 exact ⟨h2, by simp, h5.1, h5.2⟩

omit ht in
theorem jku {f : Ps → Tr × Ps} (hf : Runs ts f) (h : AtOk ts p) : Step ts p (ifOk f p).2 := by
 unfold ifOk
 split
 ·exact hf p h
 ·exact h.refl

theorem qfq : ∀ n, Runs ts (qao ts n)
 | 0 => fun p h => h.refl
 | n + 1 => fun p h => by
  unfold qao
  simp only
  split
  ·exact qbn ht h
  split
  ·rename_i hs
   have h1 := qh ht h hs
   exact h1.trans (qas ht (h1.ok h))
  split
  ·rename_i hs
   have h1 : Step ts p (adv p) := by rcases hs with hs | hs <;> exact qh ht h hs
   exact h1.trans (qik (h1.ok h) (jku (qfq n) (qct (h1.ok h)).1))
  split
  ·rename_i hs
   have h1 := qh ht h hs
   have h2 := (qct (h1.ok h)).1
   have h3 : Step ts (adv p) (outP (if (inP ts (adv p)).err = 0 then (qea ts (qao ts n) (inP ts (adv p))).2 else inP ts (adv p))) := by
    refine qik (h1.ok h) ?_
    split
    ·exact qqy ht (qfq n) _ h2
    ·exact h2.refl
   exact h1.trans (h3.trans (qk ht (h3.ok (h1.ok h)) _))
  ·exact qas ht h

theorem qbj : Runs ts (eF ts) := qqy ht (qfq ht _)

section
variable {stat : Ps → Tr × Ps} (hs : Runs ts stat)
include hs
theorem qgn : ∀ (n : Nat) (l : List Tr) (p : Ps), AtOk ts p → Step ts p (jp ts stat n l p).2
 | 0, l, p, h => h.refl
 | n + 1, l, p, h => by
  rw [jp]
  split
  ·split
   ·exact qh ht h (by assumption)
   ·exact (hs p h).trans (qgn n _ _ ((hs p h).ok h))
  ·exact h.refl

theorem qqz : Runs ts (qt ts stat) := fun p h => by
 have h1 := qk ht h sLc
 exact h1.trans (qik (h1.ok h) (qgn ht hs _ _ _ (qct (h1.ok h)).1))
end

theorem qon {blk : Ps → Tr × Ps} (hb : Runs ts blk) : ∀ (n : Nat) (l : List Tr) (p : Ps), AtOk ts p → Step ts p (orL ts blk n l p).2
 | 0, l, p, h => h.refl
 | n + 1, l, p, h => by
  rw [orL]
  split
  ·have h1 := qh ht h (by assumption)
   have h2 := hb _ (h1.ok h)
   exact h1.trans (h2.trans (qon hb n _ _ (h2.ok (h1.ok h))))
  ·exact h.refl

theorem jkv {blk : Ps → Tr × Ps} (hb : Runs ts blk) (a i : Int) : Runs ts (qdp ts blk a i) := fun p h => by
 unfold qdp
 split
 ·have h1 := qh ht h (by assumption)
  have h2 := qas ht (h1.ok h)
  have h3 := qas ht (h2.ok (h1.ok h))
  exact h1.trans (h2.trans (h3.trans (qk ht (h3.ok (h2.ok (h1.ok h))) _)))
 split
 ·have h1 := qh ht h (by assumption)
  have h2 := qbj ht _ (h1.ok h)
  exact h1.trans (h2.trans (qk ht (h2.ok (h1.ok h)) _))
 ·have h1 := qk ht h ji
  have h2 := hb _ (h1.ok h)
  exact h1.trans (h2.trans (qon ht hb _ _ _ (h2.ok (h1.ok h))))

theorem qjs : ∀ n, Runs ts (qc ts n)
 | 0 => fun p h => h.refl
 | n + 1 => fun p h => by
  have hb := qqz ht (qjs n)
  unfold qc
  simp only
  split
  ·have h1 := qhi ht h qdy
   exact h1.trans (jkv ht hb _ _ _ (h1.ok h))
  split
  ·have h1 := qh ht h (by assumption)
   have h2 := qas ht (h1.ok h)
   have h3 := qbj ht _ (h2.ok (h1.ok h))
   exact h1.trans (h2.trans (h3.trans (qk ht (h3.ok (h2.ok (h1.ok h))) _)))
  split
  ·have h1 := qh ht h (by assumption)
   have h2 := qbj ht _ (h1.ok h)
   have h3 := hb _ (h2.ok (h1.ok h))
   have h4 := h1.trans (h2.trans h3)
   split
   ·have h5 := qh ht (h4.ok h) (by assumption)
    exact h4.trans (h5.trans (hb _ (h5.ok (h4.ok h))))
   ·exact h4
  split
  ·have h1 := qh ht h (by assumption)
   have h2 := qbj ht _ (h1.ok h)
   exact h1.trans (h2.trans (hb _ (h2.ok (h1.ok h))))
  split
  ·have h1 := qh ht h (by assumption)
   exact h1.trans (hb _ (h1.ok h))
  split
  ·have h1 := qh ht h (by assumption)
   exact h1.trans (qk ht (h1.ok h) _)
  split
  ·have h1 := qh ht h (by assumption)
   exact h1.trans (qk ht (h1.ok h) _)
  ·have h1 := qas ht h
   have h2 := qk ht (h1.ok h) sEq
   have h3 := qbj ht _ (h2.ok (h1.ok h))
   exact h1.trans (h2.trans (h3.trans (qk ht (h3.ok (h2.ok (h1.ok h))) _)))

theorem qil : Runs ts (sF ts) := qjs ht _

theorem qlh : Runs ts (jz ts) := fun p h => by
 unfold jz
 simp only
 have h1 := qk ht h kVar
 have h2 := qas ht (h1.ok h)
 have h3 := h1.trans h2
 have h4 := h3.trans (qk ht (h3.ok h) kOf)
 have h5 := h4.trans (qbn ht (h4.ok h))
 split
 ·have h6 := h5.trans (qh ht (h5.ok h) (by assumption))
  split
  ·have h7 := h6.trans (qh ht (h6.ok h) (by assumption))
   have h8 := h7.trans (qbn ht (h7.ok h))
   exact h8.trans (qk ht (h8.ok h) _)
  ·have h8 := h6.trans (qbn ht (h6.ok h))
   exact h8.trans (qk ht (h8.ok h) _)
 ·exact h5.trans (qk ht (h5.ok h) _)

theorem qoo : ∀ (n : Nat) (l : List Tr) (p : Ps), AtOk ts p → Step ts p (qbv ts n l p).2
 | 0, l, p, h => h.refl
 | n + 1, l, p, h => by
  rw [qbv]
  split
  ·have h2 := qlh ht _ h
   exact h2.trans (qoo n _ _ (h2.ok h))
  ·exact h.refl

theorem jkw : Runs ts (qdq ts) := fun p h => by
 unfold qdq
 simp only
 have h1 := qk ht h jb
 have h3 := h1.trans (qas ht (h1.ok h))
 have h4 : Step ts p (if sees ts (qf ts (must ts p jb)) qfp = true then (numN ts (adv (qf ts (must ts p jb))), numP ts (adv (qf ts (must ts p jb)))) else (1, qf ts (must ts p jb))).2 := by
  split
  ·have h5 := h3.trans (qh ht (h3.ok h) (by assumption))
   exact h5.trans (qbn ht (h5.ok h))
  ·exact h3
 have h5 := h4.trans (qk ht (h4.ok h) sLc)
 have h6 := h5.trans (qoo ht ts.length [] _ (h5.ok h))
 exact h6.trans (qik (h6.ok h) (qgn ht (qil ht) _ _ _ (qct (h6.ok h)).1))

theorem qud : Runs ts (itemF ts) := fun p h => by
 unfold itemF
 simp only
 split
 ·exact qlh ht _ h
 split
 ·exact jkw ht _ h
 split
 ·have h1 := qh ht h (by assumption)
  have h2 := h1.trans (qas ht (h1.ok h))
  have h3 := h2.trans (qk ht (h2.ok h) sLb)
  have h4 := h3.trans (qbn ht (h3.ok h))
  have h5 := h4.trans (qk ht (h4.ok h) sRb)
  have h6 := h5.trans (qk ht (h5.ok h) kOf)
  have h7 := h6.trans (qbn ht (h6.ok h))
  have h8 := h7.trans (qhi ht (h7.ok h) qhg)
  have h9 := h8.trans (qhi ht (h8.ok h) qii)
  exact h9.trans (qk ht (h9.ok h) _)
 split
 ·have h1 := qh ht h (by assumption)
  have h2 := h1.trans (qbj ht _ (h1.ok h))
  exact h2.trans (qk ht (h2.ok h) _)
 ·have h1 := qk ht h qle
  exact h1.trans (qk ht (h1.ok h) _)

theorem que : ∀ (n : Nat) (l : List Tr) (p : Ps), AtOk ts p → Step ts p (qdr ts n l p).2
 | 0, l, p, h => h.refl
 | n + 1, l, p, h => by
  rw [qdr]
  split
  ·have h2 := qud ht _ h
   exact h2.trans (que n _ _ (h2.ok h))
  ·exact h.refl

end

end Pa
end Go.Proofs.Ytdoaagphhjggbaa
end
section
/- Contracts: which trees are right: a node. -/
namespace Go.Proofs.Ytdoaagphhjggbaa
open Go Go.Sx Go.RowKit Go.St
set_option maxRecDepth 100000
set_option maxHeartbeats 2000000

abbrev bv (n : Int) : AV := .int .u8 n

theorem qjt (c : Int) : Con Try.prog 68 [bv c] (.bool (decide (48 ≤ c) && decide (c ≤ 57))) := by
 refine qi (T := tab Try.prog) (C := {}) 300 (fun _ => rfl) Try.func68 rfl (by kernel_rfl) (by kernel_rfl) (fun c0 rdb => ?_)
 (repeat' ((conv => whnf); first | refine zO ?_ | refine Ob.auto ?_ | (refine qw (fun _ => rfl) (by kernel_rfl) 300 ?_) | (apply zB <;> intro hb <;> (try simp [-List.getD_eq_getElem?_getD] at hb) <;> try (exfalso; omega)) | refine Ob.intro ?_ ?_))
 exact Le.refl _

theorem qeh (c : Int) : Con Try.prog 66 [bv c] (.bool (qnx c)) := by
 refine qi (T := tab Try.prog) (C := {}) 300 (fun _ => rfl) Try.func66 rfl (by kernel_rfl) (by kernel_rfl) (fun c0 rdb => ?_)
 (repeat' ((conv => whnf); first | refine zO ?_ | refine Ob.auto ?_ | (refine qw (fun _ => rfl) (by kernel_rfl) 300 ?_) | (apply zB <;> intro hb <;> (try simp [-List.getD_eq_getElem?_getD] at hb) <;> try (exfalso; omega)) | refine Ob.intro ?_ ?_))
 exact Le.refl _

theorem qju (c : Int) : Con Try.prog 67 [bv c] (.bool (qny c)) := by
 refine qi (T := tab Try.prog) (C := {}) 300 (fun _ => rfl) Try.func67 rfl (by kernel_rfl) (by kernel_rfl) (fun c0 rdb => ?_)
 (repeat' ((conv => whnf); first | refine zO ?_ | refine Ob.auto ?_ | refine zC 300 (qeh c) ?_ | refine zG 300 (fun hg => qeh c) ?_ | refine zX (qeh c) ?_ | refine zY (fun hg => qeh c) ?_ | refine zC 300 (qjt c) ?_ | refine zG 300 (fun hg => qjt c) ?_ | refine zX (qjt c) ?_ | refine zY (fun hg => qjt c) ?_ | refine zE 300 (qeh c) ?_ | refine zF 300 (fun hg => qeh c) ?_ | refine zE 300 (qjt c) ?_ | refine zF 300 (fun hg => qjt c) ?_ | (refine qw (fun _ => rfl) (by kernel_rfl) 300 ?_) | (apply zB <;> intro hb <;> (try simp [-List.getD_eq_getElem?_getD] at hb) <;> try (exfalso; omega)) | refine Ob.intro ?_ ?_))
 exact Le.refl _

theorem jkx (f : Nat → List AV) (h : ∀ i, i < 21 → f i = encL (fun s => [.str s]) [] keyL i) : Le (.slc 1 21 f) (strs keyL) := Le.slc rfl h

theorem qex (s : List UInt8) : Con Try.prog 107 [.str s] (.bool (keyF s)) := by
 refine qi (T := tab Try.prog) (C := {}) 300 (fun _ => rfl) Try.func107 rfl (by kernel_rfl) (by kernel_rfl) (fun c0 rdb => ?_)
 (repeat' ((conv => whnf); first | refine zO ?_ | refine Ob.auto ?_ | (refine qw (fun _ => rfl) (by kernel_rfl) 300 ?_) | (apply zB <;> intro hb <;> (try simp [-List.getD_eq_getElem?_getD] at hb) <;> try (exfalso; omega)) | refine Ob.intro ?_ ?_))
 ((conv => whnf); refine jf (fun _ => rfl) 300 1 (fun i : Nat => [(4, iv i), (3, strs keyL)]) (fun _ => []) (fun i => i ≤ keyL.length ∧ ∀ j, j < i → (keyL.getD j [] == s) = false) (fun i => keyL.length - i) (0) (⟨by omega, fun j hj => absurd hj (Nat.not_lt_zero j)⟩) ⟨Le.refl _, jkx _ (fun i hi => match i, hi with | 0, _ => rfl | 1, _ => rfl | 2, _ => rfl | 3, _ => rfl | 4, _ => rfl | 5, _ => rfl | 6, _ => rfl | 7, _ => rfl | 8, _ => rfl | 9, _ => rfl | 10, _ => rfl | 11, _ => rfl | 12, _ => rfl | 13, _ => rfl | 14, _ => rfl | 15, _ => rfl | 16, _ => rfl | 17, _ => rfl | 18, _ => rfl | 19, _ => rfl | 20, _ => rfl | n + 21, h => absurd h (by omega)), trivial⟩ qa (fun _ => rfl) (by kernel_rfl) ?_; (conv => whnf))
 intro i hi
 have h21 : keyL.length = 21 := rfl
 (repeat' ((conv => whnf); first | refine zO ?_ | refine Ob.auto ?_ | (refine Ob.intro (by (exact ⟨by omega, by omega⟩)) ?_) | (refine qw (fun _ => rfl) (by kernel_rfl) 300 ?_) | (apply zB <;> intro hb <;> (try simp [-List.getD_eq_getElem?_getD] at hb) <;> try (exfalso; omega)) | refine Ob.intro ?_ ?_))
 ·refine Le.of_eq (congrArg AV.bool ?_)
  unfold keyF
  exact (List.any_eq_true.2 ⟨keyL.getD i [], qp keyL i [] (by omega), by simpa using hb⟩).symm
 ·((conv => whnf); refine ⟨i + 1, ⟨by omega, qcb hi.2 (beq_eq_false_iff_ne.2 hb)⟩, ⟨qa, qa⟩, ⟨qa, qa⟩, ?_⟩; (first | omega | (dsimp only; omega) | skip))
 ·refine Le.of_eq (congrArg AV.bool ?_)
  unfold keyF
  rw [eq_comm, Bool.eq_false_iff]
  intro h
  obtain ⟨x, hx, he⟩ := List.any_eq_true.1 h
  obtain ⟨j, hj, rfl⟩ := List.mem_iff_getElem.1 hx
  have := hi.2 j (by omega)
  rw [List.getD_eq_getElem?_getD, List.getElem?_eq_getElem hj] at this
  simp only [Option.getD_some] at this
  rw [this] at he; cases he

theorem qli (s : List UInt8) : Con Try.prog 106 [.str s] (.bool (nameF s)) := by
 refine qi (T := tab Try.prog) (C := {}) 300 (fun _ => rfl) Try.func106 rfl (by kernel_rfl) (by kernel_rfl) (fun c0 rdb => ?_)
 (repeat' ((conv => whnf); first | refine zO ?_ | refine Ob.auto ?_ | (refine Ob.intro (by ((intro h; simp at h ⊢; exact ⟨h, by have := List.length_pos_iff.2 h.1; omega⟩))) ?_) | refine zC 300 (qeh _) ?_ | refine zG 300 (fun hg => qeh _) ?_ | refine zX (qeh _) ?_ | refine zY (fun hg => qeh _) ?_ | refine zC 300 (qex s) ?_ | refine zG 300 (fun hg => qex s) ?_ | refine zX (qex s) ?_ | refine zY (fun hg => qex s) ?_ | refine zE 300 (qeh _) ?_ | refine zF 300 (fun hg => qeh _) ?_ | refine zE 300 (qex s) ?_ | refine zF 300 (fun hg => qex s) ?_ | (refine qw (fun _ => rfl) (by kernel_rfl) 300 ?_) | (apply zB <;> intro hb <;> (try simp [-List.getD_eq_getElem?_getD] at hb) <;> try (exfalso; omega)) | refine Ob.intro ?_ ?_))
 ·refine Le.of_eq (congrArg AV.bool ?_)
  unfold nameF
  have : (decide (s.length = 0) || decide (12 < s.length) || !qnx (qbc s 0) || keyF s) = true := by
   simp only [Bool.or_eq_true, decide_eq_true_eq, List.length_eq_zero_iff, Bool.not_eq_true']
   rcases hb with ((hb | hb) | hb) | hb
   ·exact .inl (.inl (.inl hb))
   ·exact .inl (.inl (.inr (by omega)))
   ·exact .inl (.inr hb)
   ·exact .inr hb
  rw [this]; rfl
 ·have h0 : (decide (s.length = 0) || decide (12 < s.length) || !qnx (qbc s 0) || keyF s) = false := by
   simp only [Bool.or_eq_false_iff, decide_eq_false_iff_not, List.length_eq_zero_iff, Bool.not_eq_false']
   exact ⟨⟨⟨hb.1.1.1, by omega⟩, hb.1.2⟩, hb.2⟩
  ((conv => whnf); refine jf (fun _ => rfl) 300 1 (fun i : Nat => [(3, iv i)]) (fun _ => []) (fun i => i ≤ s.length ∧ ∀ j, j < i → qny (qbc s j) = true) (fun i => s.length - i) (0) (⟨by omega, fun j hj => absurd hj (Nat.not_lt_zero j)⟩) qa qa (fun _ => rfl) (by kernel_rfl) ?_; (conv => whnf))
  intro i hi
  (repeat' ((conv => whnf); first | refine zO ?_ | refine Ob.auto ?_ | (refine Ob.intro (by (exact ⟨by omega, by omega⟩)) ?_) | refine zC 300 (qju _) ?_ | refine zG 300 (fun hg => qju _) ?_ | refine zX (qju _) ?_ | refine zY (fun hg => qju _) ?_ | refine zE 300 (qju _) ?_ | refine zF 300 (fun hg => qju _) ?_ | (refine qw (fun _ => rfl) (by kernel_rfl) 300 ?_) | (apply zB <;> intro hb <;> (try simp [-List.getD_eq_getElem?_getD] at hb) <;> try (exfalso; omega)) | refine Ob.intro ?_ ?_))
  ·refine Le.of_eq (congrArg AV.bool ?_)
   unfold nameF
   rw [h0, qzc (q := fun i => qny (qbc s i)) (i := i) (by omega) hb]; rfl
  ·((conv => whnf); refine ⟨i + 1, ⟨by omega, qcb hi.2 hb⟩, ⟨qa, qa⟩, ⟨qa, qa⟩, ?_⟩; (first | omega | (dsimp only; omega) | skip))
  ·refine Le.of_eq (congrArg AV.bool ?_)
   unfold nameF
   rw [h0, qnu (q := fun i => qny (qbc s i)) (fun j hj => hi.2 j (by omega))]; rfl

end Go.Proofs.Ytdoaagphhjggbaa
end
section
/- Contracts of the reference lexer's small functions, out of those of names. -/
namespace Go.Proofs.Ytdoaagphhjggbaa
open Go.Sx Go.RowKit
set_option maxRecDepth 100000

theorem qzp (c : Int) : Con Try.prog 68 [.int .u8 c] (.bool (decide (48 ≤ c) && decide (c ≤ 57))) := qjt c

theorem jky (c : Int) : Con Try.prog 66 [.int .u8 c] (.bool (decide (65 ≤ c) && decide (c ≤ 90) || decide (97 ≤ c) && decide (c ≤ 122))) := qeh c

theorem qzq (l : List UInt8) (c : Int) (hl : l.length ≤ 1000) : Con Try.prog 64 [.str l, .int .u8 c] (.bool (Lx.hasB l c)) := by
 refine qi (T := tab Try.prog) (C := {}) 100 (fun _ => rfl) Try.func64 rfl (by kernel_rfl) (by kernel_rfl) (fun c0 rdb => ?_)
 repeat' ((conv => whnf); first | refine Ob.auto ?_ | (apply zB <;> intro hb <;> (try simp at hb) <;> try (exfalso; omega)) | refine Ob.intro ?_ ?_)
 (conv => whnf); refine qjc (fun _ => rfl) 100 1 (fun k : Nat => ⟨[(0, .str l), (1, .int .u8 c), (5, .int .i64 k)], [], 0⟩)
  (fun k => k ≤ l.length ∧ Lx.hasB (l.take k) c = false) (fun k => l.length - k) 0 ⟨by omega, by simp [Lx.hasB]⟩ subA (fun _ => rfl) (by kernel_rfl) ?_
 rintro k ⟨hk, hf⟩
 repeat' ((conv => whnf); first | refine Ob.auto ?_ | (apply zB <;> intro hb <;> (try simp at hb) <;> try (exfalso; omega)) | refine Ob.intro ?_ ?_)
 ·have h1 := Lx.hasB_step (by assumption) c
  refine Le.of_eq (congrArg AV.bool ?_)
  rw [hb, beq_self_eq_true, Bool.or_true] at h1
  exact (Lx.hasB_take h1).symm
 ·(conv => whnf); refine Exists.intro (k + 1) ⟨⟨by omega, ?_⟩, subA, by omega⟩
  rw [Lx.hasB_step (by assumption) c, hf]
  simpa using hb
 ·rw [List.take_of_length_le (by omega)] at hf
  exact Le.of_eq (by rw [hf])

theorem jkz (c : Int) : Con Try.prog 67 [.int .u8 c] (.bool (Lx.wordC c)) := qju c

theorem qra (s : List UInt8) (i : Nat) (hi : i ≤ s.length) (hs : s.length ≤ 1000000) : Con Try.prog 65 [.str s, .int .i64 i] (.str (Lx.twoL (s.drop i))) := by
 refine qi (T := tab Try.prog) (C := {}) 100 (fun _ => rfl) Try.func65 rfl (by kernel_rfl) (by kernel_rfl) (fun c0 rdb => ?_)
 repeat' ((conv => whnf); first | refine Ob.auto ?_ | (apply zB <;> intro hb <;> (try simp at hb) <;> try (exfalso; omega)) | refine Ob.intro ?_ ?_)
 ·refine Le.of_eq (congrArg AV.str ?_)
  rw [Lx.twoL, List.length_drop, if_pos (by omega), show ((i : Int) + 2).toNat = i + 2 by omega, Int.toNat_natCast, List.drop_take, Nat.add_sub_cancel_left]
 ·refine Le.of_eq (congrArg AV.str ?_)
  rw [Lx.twoL, List.length_drop, if_neg (by omega)]

end Go.Proofs.Ytdoaagphhjggbaa
end
