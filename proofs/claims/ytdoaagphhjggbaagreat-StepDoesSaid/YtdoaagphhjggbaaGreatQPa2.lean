/- The document's parser in plain Lean: it goes on, and keeps how deep it is. -/
import Derived.Test.YtdoaagphhjggbaaGreatQPa0
import Derived.Test.YtdoaagphhjggbaaGreatQ2
namespace Go.Proofs.YtdoaagphhjggbaaGreat
namespace Pa
open Go Go.Sx
structure ToksOk (ts : List Lx.Tok) : Prop where
 len : ts.length ≤ 5000
 last : ∀ i, i < ts.length → ((ts.getD i Lx.tok0).kind = 3 ↔ i + 1 = ts.length)
 num : ∀ t ∈ ts, t.kind = 1 → t.s.length ≤ 6 ∧ ∀ b ∈ t.s, 48 ≤ b.toNat ∧ b.toNat ≤ 57
structure AtOk (ts : List Lx.Tok) (p : Ps) : Prop where
 lo : 0 ≤ p.at_
 hi : p.at_ < ts.length
structure Step (ts : List Lx.Tok) (p q : Ps) : Prop where
 le : p.at_ ≤ q.at_
 hi : q.at_ < ts.length
 deep : q.deep = p.deep
 err : p.err ≠ 0 → q = p
theorem qzy (s : List UInt8) (b : UInt8) : qgl (s ++ [b]) = 10 * qgl s + ((b.toNat : Int) - 48) := by
 unfold qgl; rw [List.foldl_append]; rfl
theorem qts {s : List UInt8} (h : ∀ b ∈ s, 48 ≤ b.toNat ∧ b.toNat ≤ 57) : ∀ i, i ≤ s.length → 0 ≤ qgl (s.take i) ∧ qgl (s.take i) < 10 ^ i
 | 0, _ => by simp [qgl]
 | i + 1, hi => by
  have h1 := qts h i (by omega)
  rw [List.take_succ_eq_append_getElem (by omega), qzy, Int.pow_succ]
  have h2 := h _ (List.getElem_mem (by omega : i < s.length))
  omega
section
variable {ts : List Lx.Tok} {p q r : Ps}
theorem qzz (h : AtOk ts p) : tk ts p ∈ ts := by
 have h0 := h.lo
 have h1 := h.hi
 unfold tk
 rw [List.getD_eq_getElem?_getD, List.getElem?_eq_getElem (by omega)]
 exact List.getElem_mem _
theorem AtOk.refl (h : AtOk ts p) : Step ts p p := ⟨Int.le_refl _, h.hi, rfl, fun _ => rfl⟩
theorem Step.trans (h : Step ts p q) (k : Step ts q r) : Step ts p r :=
 ⟨Int.le_trans h.le k.le, k.hi, k.deep.trans h.deep, fun e => by have := h.err e; subst this; exact k.err e⟩
theorem Step.ok (h : AtOk ts p) (k : Step ts p q) : AtOk ts q := ⟨Int.le_trans h.lo k.le, k.hi⟩
theorem jlp {s : List UInt8} (h : sees ts p s = true) : p.err = 0 := by
 unfold sees at h
 simp only [Bool.and_eq_true, beq_iff_eq] at h
 exact h.1
theorem jlq {s : List UInt8} (h : sees ts p s = true) : (tk ts p).kind = 2 ∨ (tk ts p).kind = 0 := by
 unfold sees qtr at h
 simp only [Bool.and_eq_true, Bool.or_eq_true, beq_iff_eq] at h
 rcases h.2.2 with h | h
 ·exact .inl h
 ·exact .inr h.1
theorem jlr (h : qhn ts p = true) : p.err = 0 := by
 unfold qhn at h; simp only [Bool.and_eq_true, beq_iff_eq] at h; exact h.2
theorem jls (h : qgk ts p = true) : p.err = 0 := by
 unfold qgk at h; simp only [Bool.and_eq_true, beq_iff_eq] at h; exact h.2
variable (ht : ToksOk ts)
include ht
theorem jlt (h : AtOk ts p) (hk : (tk ts p).kind ≠ 3) : p.at_ + 1 < ts.length := by
 have h0 := h.lo
 have h1 := h.hi
 have h2 := ht.last p.at_.toNat (by omega)
 have h3 : ¬ (p.at_.toNat + 1 = ts.length) := fun e => hk (h2.2 e)
 omega
theorem qtt (h : AtOk ts p) (hk : (tk ts p).kind ≠ 3) (he : p.err = 0) : Step ts p (adv p) :=
 ⟨by show p.at_ ≤ p.at_ + 1; omega, jlt ht h hk, rfl, fun e => absurd he e⟩
theorem qh (h : AtOk ts p) {s : List UInt8} (hs : sees ts p s = true) : Step ts p (adv p) :=
 qtt ht h (by have := jlq hs; omega) (jlp hs)
omit ht in
theorem qtu (h : AtOk ts p) (e : Int) : Step ts p (bad ts p e) := by
 unfold bad
 split
 ·rename_i he
  exact ⟨Int.le_refl _, h.hi, rfl, fun e => absurd he e⟩
 ·exact h.refl
theorem qho (h : AtOk ts p) (s : List UInt8) : Step ts p (took ts p s) := by
 unfold took
 split
 ·exact qh ht h (by assumption)
 ·exact h.refl
theorem qk (h : AtOk ts p) (s : List UInt8) : Step ts p (must ts p s) := by
 unfold must
 split
 ·exact qh ht h (by assumption)
 ·exact qtu h 11
theorem qam (h : AtOk ts p) : Step ts p (qf ts p) := by
 unfold qf
 split
 ·rename_i hn
  refine qtt ht h ?_ (jlr hn)
  unfold qhn at hn
  simp only [Bool.and_eq_true, beq_iff_eq] at hn
  omega
 ·exact qtu h 11
theorem qbf (h : AtOk ts p) : Step ts p (numP ts p) := by
 unfold numP
 split
 ·rename_i hn
  refine qtt ht h ?_ (jls hn)
  unfold qgk at hn
  simp only [Bool.and_eq_true, beq_iff_eq] at hn
  omega
 ·exact qtu h 11
abbrev Runs (ts : List Lx.Tok) (f : Ps → Tr × Ps) : Prop := ∀ p, AtOk ts p → Step ts p (f p).2
theorem qjy {f : Ps → Tr × Ps} (hf : Runs ts f) {c : Ps → Bool} {sg : Ps → Int} (hc : ∀ p, c p = true → ∃ s, sees ts p s = true) : ∀ (n : Nat) (a : Tr) (p : Ps), AtOk ts p → Step ts p (qao f c sg n a p).2
 | 0, a, p, h => h.refl
 | n + 1, a, p, h => by
  rw [qao]
  split
  ·rename_i hcp
   obtain ⟨s, hs⟩ := hc p hcp
   have h1 := qh ht h hs
   have h2 := hf _ (h1.ok h)
   exact h1.trans (h2.trans (qjy hf hc n _ _ (h2.ok (h1.ok h))))
  ·exact h.refl
theorem jaa {f : Ps → Tr × Ps} (hf : Runs ts f) (s : List UInt8) (sg : Int) : Runs ts (qlh ts f s sg) := fun p h => by
 have h1 := hf p h
 unfold qlh
 split
 ·rename_i hs
  have h2 := qh ht (h1.ok h) hs
  exact h1.trans (h2.trans (hf _ (h2.ok (h1.ok h))))
 ·exact h1
omit ht in
theorem jab {p : Ps} (h : qdt ts p = true) : ∃ s, sees ts p s = true := by
 unfold qdt at h
 simp only [Bool.or_eq_true] at h
 rcases h with h | h | h <;> exact ⟨_, h⟩
omit ht in
theorem jac {p : Ps} (h : sumC ts p = true) : ∃ s, sees ts p s = true := by
 unfold sumC at h
 simp only [Bool.or_eq_true] at h
 rcases h with h | h <;> exact ⟨_, h⟩
section
variable {part : Ps → Tr × Ps} (hp : Runs ts part)
include hp
theorem qnq : Runs ts (qcd ts part) := fun p h => (hp p h).trans (qjy ht hp (fun _ => jab) _ _ _ ((hp p h).ok h))
theorem qtv : Runs ts (sumF ts part) := fun p h => (qnq ht hp p h).trans (qjy ht (qnq ht hp) (fun _ => jac) _ _ _ ((qnq ht hp p h).ok h))
theorem qtw : Runs ts (qbx ts part) := jaa ht (qtv ht hp) _ _
theorem qnr : Runs ts (qdg ts part) := jaa ht (qtw ht hp) _ _
theorem qns : Runs ts (andF ts part) := fun p h => (qnr ht hp p h).trans (qjy ht (qnr ht hp) (fun _ h => ⟨_, h⟩) _ _ _ ((qnr ht hp p h).ok h))
theorem qqm : Runs ts (qdu ts part) := fun p h => (qns ht hp p h).trans (qjy ht (qns ht hp) (fun _ h => ⟨_, h⟩) _ _ _ ((qns ht hp p h).ok h))
end
omit ht in
theorem qcn (h : AtOk ts p) : AtOk ts (inP ts p) ∧ (inP ts p).at_ = p.at_ ∧ (inP ts p).deep = p.deep + 1 ∧ (p.err ≠ 0 → (inP ts p).err = p.err ∧ (inP ts p).fat = p.fat) := by
 unfold inP
 split
 ·unfold bad
  split
  ·rename_i he
   exact ⟨⟨h.lo, h.hi⟩, rfl, rfl, fun e => absurd he e⟩
  ·exact ⟨⟨h.lo, h.hi⟩, rfl, rfl, fun _ => ⟨rfl, rfl⟩⟩
 ·exact ⟨⟨h.lo, h.hi⟩, rfl, rfl, fun _ => ⟨rfl, rfl⟩⟩
omit ht in
theorem qip (h : AtOk ts p) (hs : Step ts (inP ts p) q) : Step ts p (outP q) := by
 obtain ⟨h1, h2, h3, h4⟩ := qcn h
 refine ⟨by have := hs.le; show p.at_ ≤ q.at_; omega, hs.hi, by have := hs.deep; show q.deep - 1 = p.deep; omega, fun e => ?_⟩
 have h5 := h4 e
 have h6 := hs.err (by rw [h5.1]; exact e)
 subst h6
 show ({ (inP ts p) with deep := (inP ts p).deep - 1 } : Ps) = p
 rw [h3]
 cases p
 simp only [Ps.mk.injEq]
 exact ⟨h2, by simp, h5.1, h5.2⟩
omit ht in
theorem jlu {f : Ps → Tr × Ps} (hf : Runs ts f) (h : AtOk ts p) : Step ts p (ifOk f p).2 := by
 unfold ifOk
 split
 ·exact hf p h
 ·exact h.refl
theorem qfk : ∀ n, Runs ts (qaj ts n)
 | 0 => fun p h => h.refl
 | n + 1 => fun p h => by
  unfold qaj
  simp only
  split
  ·exact qbf ht h
  split
  ·rename_i hs
   have h1 := qh ht h hs
   exact h1.trans (qam ht (h1.ok h))
  split
  ·rename_i hs
   have h1 : Step ts p (adv p) := by rcases hs with hs | hs <;> exact qh ht h hs
   exact h1.trans (qip (h1.ok h) (jlu (qfk n) (qcn (h1.ok h)).1))
  split
  ·rename_i hs
   have h1 := qh ht h hs
   have h2 := (qcn (h1.ok h)).1
   have h3 : Step ts (adv p) (outP (if (inP ts (adv p)).err = 0 then (qdu ts (qaj ts n) (inP ts (adv p))).2 else inP ts (adv p))) := by
    refine qip (h1.ok h) ?_
    split
    ·exact qqm ht (qfk n) _ h2
    ·exact h2.refl
   exact h1.trans (h3.trans (qk ht (h3.ok (h1.ok h)) _))
  ·exact qam ht h
theorem qbb : Runs ts (eF ts) := qqm ht (qfk ht _)
section
variable {stat : Ps → Tr × Ps} (hs : Runs ts stat)
include hs
theorem qgn : ∀ (n : Nat) (l : List Tr) (p : Ps), AtOk ts p → Step ts p (jh ts stat n l p).2
 | 0, l, p, h => h.refl
 | n + 1, l, p, h => by
  rw [jh]
  split
  ·split
   ·exact qh ht h (by assumption)
   ·exact (hs p h).trans (qgn n _ _ ((hs p h).ok h))
  ·exact h.refl
theorem qqn : Runs ts (qv ts stat) := fun p h => by
 have h1 := qk ht h sLc
 exact h1.trans (qip (h1.ok h) (qgn ht hs _ _ _ (qcn (h1.ok h)).1))
end
theorem qnt {blk : Ps → Tr × Ps} (hb : Runs ts blk) : ∀ (n : Nat) (l : List Tr) (p : Ps), AtOk ts p → Step ts p (orL ts blk n l p).2
 | 0, l, p, h => h.refl
 | n + 1, l, p, h => by
  rw [orL]
  split
  ·have h1 := qh ht h (by assumption)
   have h2 := hb _ (h1.ok h)
   exact h1.trans (h2.trans (qnt hb n _ _ (h2.ok (h1.ok h))))
  ·exact h.refl
theorem jlv {blk : Ps → Tr × Ps} (hb : Runs ts blk) (a i : Int) : Runs ts (qdh ts blk a i) := fun p h => by
 unfold qdh
 split
 ·have h1 := qh ht h (by assumption)
  have h2 := qam ht (h1.ok h)
  have h3 := qam ht (h2.ok (h1.ok h))
  exact h1.trans (h2.trans (h3.trans (qk ht (h3.ok (h2.ok (h1.ok h))) _)))
 split
 ·have h1 := qh ht h (by assumption)
  have h2 := qbb ht _ (h1.ok h)
  exact h1.trans (h2.trans (qk ht (h2.ok (h1.ok h)) _))
 ·have h1 := qk ht h jd
  have h2 := hb _ (h1.ok h)
  exact h1.trans (h2.trans (qnt ht hb _ _ _ (h2.ok (h1.ok h))))
theorem qjz : ∀ n, Runs ts (qe ts n)
 | 0 => fun p h => h.refl
 | n + 1 => fun p h => by
  have hb := qqn ht (qjz n)
  unfold qe
  simp only
  split
  ·have h1 := qho ht h qds
   exact h1.trans (jlv ht hb _ _ _ (h1.ok h))
  split
  ·have h1 := qh ht h (by assumption)
   have h2 := qam ht (h1.ok h)
   have h3 := qbb ht _ (h2.ok (h1.ok h))
   exact h1.trans (h2.trans (h3.trans (qk ht (h3.ok (h2.ok (h1.ok h))) _)))
  split
  ·have h1 := qh ht h (by assumption)
   have h2 := qbb ht _ (h1.ok h)
   have h3 := hb _ (h2.ok (h1.ok h))
   have h4 := h1.trans (h2.trans h3)
   split
   ·have h5 := qh ht (h4.ok h) (by assumption)
    exact h4.trans (h5.trans (hb _ (h5.ok (h4.ok h))))
   ·exact h4
  split
  ·have h1 := qh ht h (by assumption)
   have h2 := qbb ht _ (h1.ok h)
   exact h1.trans (h2.trans (hb _ (h2.ok (h1.ok h))))
  split
  ·have h1 := qh ht h (by assumption)
   exact h1.trans (hb _ (h1.ok h))
  split
  ·have h1 := qh ht h (by assumption)
   exact h1.trans (qk ht (h1.ok h) _)
  split
  ·have h1 := qh ht h (by assumption)
   exact h1.trans (qk ht (h1.ok h) _)
  ·have h1 := qam ht h
   have h2 := qk ht (h1.ok h) sEq
   have h3 := qbb ht _ (h2.ok (h1.ok h))
   exact h1.trans (h2.trans (h3.trans (qk ht (h3.ok (h2.ok (h1.ok h))) _)))
theorem qiq : Runs ts (sF ts) := qjz ht _
theorem qlj : Runs ts (jr ts) := fun p h => by
 unfold jr
 simp only
 have h1 := qk ht h kVar
 have h2 := qam ht (h1.ok h)
 have h3 := h1.trans h2
 have h4 := h3.trans (qk ht (h3.ok h) kOf)
 have h5 := h4.trans (qbf ht (h4.ok h))
 split
 ·have h6 := h5.trans (qh ht (h5.ok h) (by assumption))
  split
  ·have h7 := h6.trans (qh ht (h6.ok h) (by assumption))
   have h8 := h7.trans (qbf ht (h7.ok h))
   exact h8.trans (qk ht (h8.ok h) _)
  ·have h8 := h6.trans (qbf ht (h6.ok h))
   exact h8.trans (qk ht (h8.ok h) _)
 ·exact h5.trans (qk ht (h5.ok h) _)
theorem qnu : ∀ (n : Nat) (l : List Tr) (p : Ps), AtOk ts p → Step ts p (qbn ts n l p).2
 | 0, l, p, h => h.refl
 | n + 1, l, p, h => by
  rw [qbn]
  split
  ·have h2 := qlj ht _ h
   exact h2.trans (qnu n _ _ (h2.ok h))
  ·exact h.refl
theorem jlw : Runs ts (qdi ts) := fun p h => by
 unfold qdi
 simp only
 have h1 := qk ht h qz
 have h3 := h1.trans (qam ht (h1.ok h))
 have h4 : Step ts p (if sees ts (qf ts (must ts p qz)) qfj = true then (numN ts (adv (qf ts (must ts p qz))), numP ts (adv (qf ts (must ts p qz)))) else (1, qf ts (must ts p qz))).2 := by
  split
  ·have h5 := h3.trans (qh ht (h3.ok h) (by assumption))
   exact h5.trans (qbf ht (h5.ok h))
  ·exact h3
 have h5 := h4.trans (qk ht (h4.ok h) sLc)
 have h6 := h5.trans (qnu ht ts.length [] _ (h5.ok h))
 exact h6.trans (qip (h6.ok h) (qgn ht (qiq ht) _ _ _ (qcn (h6.ok h)).1))
theorem qtx : Runs ts (itemF ts) := fun p h => by
 unfold itemF
 simp only
 split
 ·exact qlj ht _ h
 split
 ·exact jlw ht _ h
 split
 ·have h1 := qh ht h (by assumption)
  have h2 := h1.trans (qam ht (h1.ok h))
  have h3 := h2.trans (qk ht (h2.ok h) sLb)
  have h4 := h3.trans (qbf ht (h3.ok h))
  have h5 := h4.trans (qk ht (h4.ok h) sRb)
  have h6 := h5.trans (qk ht (h5.ok h) kOf)
  have h7 := h6.trans (qbf ht (h6.ok h))
  have h8 := h7.trans (qho ht (h7.ok h) qhm)
  have h9 := h8.trans (qho ht (h8.ok h) qin)
  exact h9.trans (qk ht (h9.ok h) _)
 split
 ·have h1 := qh ht h (by assumption)
  have h2 := h1.trans (qbb ht _ (h1.ok h))
  exact h2.trans (qk ht (h2.ok h) _)
 ·have h1 := qk ht h qlg
  exact h1.trans (qk ht (h1.ok h) _)
theorem qty : ∀ (n : Nat) (l : List Tr) (p : Ps), AtOk ts p → Step ts p (qdj ts n l p).2
 | 0, l, p, h => h.refl
 | n + 1, l, p, h => by
  rw [qdj]
  split
  ·have h2 := qtx ht _ h
   exact h2.trans (qty n _ _ (h2.ok h))
  ·exact h.refl
end
end Pa
end Go.Proofs.YtdoaagphhjggbaaGreat
