/- The document's parser in plain Lean: it goes on, and keeps how deep it is. -/
import Derived.Test.YtdoaagphhjggbaaGreatQPa0
import Derived.Test.YtdoaagphhjggbaaGreatQ2
namespace Go.Proofs.YtdoaagphhjggbaaGreat
namespace Pa
open Go Go.Sx
structure ToksOk (ts : List Lx.Tok) : Prop where
 len : ts.length ≤ 5000
 last : ∀ i, i < ts.length → ((ts.getD i Lx.tok0).kind = 3 ↔ i + 1 = ts.length)
 num : ∀ t ∈ ts, t.kind = 1 → t.s.length ≤ 6 ∧ ∀ b ∈ t.s, 48 ≤ b.toNat ∧ b.toNat ≤ 57
structure AtOk (ts : List Lx.Tok) (p : Ps) : Prop where
 lo : 0 ≤ p.at_
 hi : p.at_ < ts.length
structure Step (ts : List Lx.Tok) (p q : Ps) : Prop where
 le : p.at_ ≤ q.at_
 hi : q.at_ < ts.length
 deep : q.deep = p.deep
 err : p.err ≠ 0 → q = p
theorem jbe (s : List UInt8) (b : UInt8) : qha (s ++ [b]) = 10 * qha s + ((b.toNat : Int) - 48) := by
 unfold qha; rw [List.foldl_append]; rfl
theorem qvo {s : List UInt8} (h : ∀ b ∈ s, 48 ≤ b.toNat ∧ b.toNat ≤ 57) : ∀ i, i ≤ s.length → 0 ≤ qha (s.take i) ∧ qha (s.take i) < 10 ^ i
 | 0, _ => by simp [qha]
 | i + 1, hi => by
  have h1 := qvo h i (by omega)
  rw [List.take_succ_eq_append_getElem (by omega), jbe, Int.pow_succ]
  have h2 := h _ (List.getElem_mem (by omega : i < s.length))
  omega
section
variable {ts : List Lx.Tok} {p q r : Ps}
theorem jbf (h : AtOk ts p) : tk ts p ∈ ts := by
 have h0 := h.lo
 have h1 := h.hi
 unfold tk
 rw [List.getD_eq_getElem?_getD, List.getElem?_eq_getElem (by omega)]
 exact List.getElem_mem _
theorem AtOk.refl (h : AtOk ts p) : Step ts p p := ⟨Int.le_refl _, h.hi, rfl, fun _ => rfl⟩
theorem Step.trans (h : Step ts p q) (k : Step ts q r) : Step ts p r :=
 ⟨Int.le_trans h.le k.le, k.hi, k.deep.trans h.deep, fun e => by have := h.err e; subst this; exact k.err e⟩
theorem Step.ok (h : AtOk ts p) (k : Step ts p q) : AtOk ts q := ⟨Int.le_trans h.lo k.le, k.hi⟩
theorem jme {s : List UInt8} (h : sees ts p s = true) : p.err = 0 := by
 unfold sees at h
 simp only [Bool.and_eq_true, beq_iff_eq] at h
 exact h.1
theorem jmf {s : List UInt8} (h : sees ts p s = true) : (tk ts p).kind = 2 ∨ (tk ts p).kind = 0 := by
 unfold sees qvn at h
 simp only [Bool.and_eq_true, Bool.or_eq_true, beq_iff_eq] at h
 rcases h.2.2 with h | h
 ·exact .inl h
 ·exact .inr h.1
theorem jmg (h : qic ts p = true) : p.err = 0 := by
 unfold qic at h; simp only [Bool.and_eq_true, beq_iff_eq] at h; exact h.2
theorem jmh (h : qgz ts p = true) : p.err = 0 := by
 unfold qgz at h; simp only [Bool.and_eq_true, beq_iff_eq] at h; exact h.2
variable (ht : ToksOk ts)
include ht
theorem jmi (h : AtOk ts p) (hk : (tk ts p).kind ≠ 3) : p.at_ + 1 < ts.length := by
 have h0 := h.lo
 have h1 := h.hi
 have h2 := ht.last p.at_.toNat (by omega)
 have h3 : ¬ (p.at_.toNat + 1 = ts.length) := fun e => hk (h2.2 e)
 omega
theorem qvp (h : AtOk ts p) (hk : (tk ts p).kind ≠ 3) (he : p.err = 0) : Step ts p (adv p) :=
 ⟨by show p.at_ ≤ p.at_ + 1; omega, jmi ht h hk, rfl, fun e => absurd he e⟩
theorem qi (h : AtOk ts p) {s : List UInt8} (hs : sees ts p s = true) : Step ts p (adv p) :=
 qvp ht h (by have := jmf hs; omega) (jme hs)
omit ht in
theorem qvq (h : AtOk ts p) (e : Int) : Step ts p (bad ts p e) := by
 unfold bad
 split
 ·rename_i he
  exact ⟨Int.le_refl _, h.hi, rfl, fun e => absurd he e⟩
 ·exact h.refl
theorem qid (h : AtOk ts p) (s : List UInt8) : Step ts p (took ts p s) := by
 unfold took
 split
 ·exact qi ht h (by assumption)
 ·exact h.refl
theorem ql (h : AtOk ts p) (s : List UInt8) : Step ts p (must ts p s) := by
 unfold must
 split
 ·exact qi ht h (by assumption)
 ·exact qvq h 11
theorem qas (h : AtOk ts p) : Step ts p (qg ts p) := by
 unfold qg
 split
 ·rename_i hn
  refine qvp ht h ?_ (jmg hn)
  unfold qic at hn
  simp only [Bool.and_eq_true, beq_iff_eq] at hn
  omega
 ·exact qvq h 11
theorem qbl (h : AtOk ts p) : Step ts p (numP ts p) := by
 unfold numP
 split
 ·rename_i hn
  refine qvp ht h ?_ (jmh hn)
  unfold qgz at hn
  simp only [Bool.and_eq_true, beq_iff_eq] at hn
  omega
 ·exact qvq h 11
abbrev Runs (ts : List Lx.Tok) (f : Ps → Tr × Ps) : Prop := ∀ p, AtOk ts p → Step ts p (f p).2
theorem qkl {f : Ps → Tr × Ps} (hf : Runs ts f) {c : Ps → Bool} {sg : Ps → Int} (hc : ∀ p, c p = true → ∃ s, sees ts p s = true) : ∀ (n : Nat) (a : Tr) (p : Ps), AtOk ts p → Step ts p (qau f c sg n a p).2
 | 0, a, p, h => h.refl
 | n + 1, a, p, h => by
  rw [qau]
  split
  ·rename_i hcp
   obtain ⟨s, hs⟩ := hc p hcp
   have h1 := qi ht h hs
   have h2 := hf _ (h1.ok h)
   exact h1.trans (h2.trans (qkl hf hc n _ _ (h2.ok (h1.ok h))))
  ·exact h.refl
theorem jbg {f : Ps → Tr × Ps} (hf : Runs ts f) (s : List UInt8) (sg : Int) : Runs ts (qmb ts f s sg) := fun p h => by
 have h1 := hf p h
 unfold qmb
 split
 ·rename_i hs
  have h2 := qi ht (h1.ok h) hs
  exact h1.trans (h2.trans (hf _ (h2.ok (h1.ok h))))
 ·exact h1
omit ht in
theorem jbh {p : Ps} (h : qef ts p = true) : ∃ s, sees ts p s = true := by
 unfold qef at h
 simp only [Bool.or_eq_true] at h
 rcases h with h | h | h <;> exact ⟨_, h⟩
omit ht in
theorem jbi {p : Ps} (h : sumC ts p = true) : ∃ s, sees ts p s = true := by
 unfold sumC at h
 simp only [Bool.or_eq_true] at h
 rcases h with h | h <;> exact ⟨_, h⟩
section
variable {part : Ps → Tr × Ps} (hp : Runs ts part)
include hp
theorem qpf : Runs ts (qcj ts part) := fun p h => (hp p h).trans (qkl ht hp (fun _ => jbh) _ _ _ ((hp p h).ok h))
theorem qvr : Runs ts (sumF ts part) := fun p h => (qpf ht hp p h).trans (qkl ht (qpf ht hp) (fun _ => jbi) _ _ _ ((qpf ht hp p h).ok h))
theorem qvs : Runs ts (qcd ts part) := jbg ht (qvr ht hp) _ _
theorem qpg : Runs ts (qds ts part) := jbg ht (qvs ht hp) _ _
theorem qph : Runs ts (andF ts part) := fun p h => (qpg ht hp p h).trans (qkl ht (qpg ht hp) (fun _ h => ⟨_, h⟩) _ _ _ ((qpg ht hp p h).ok h))
theorem qry : Runs ts (qeg ts part) := fun p h => (qph ht hp p h).trans (qkl ht (qph ht hp) (fun _ h => ⟨_, h⟩) _ _ _ ((qph ht hp p h).ok h))
end
omit ht in
theorem qcy (h : AtOk ts p) : AtOk ts (inP ts p) ∧ (inP ts p).at_ = p.at_ ∧ (inP ts p).deep = p.deep + 1 ∧ (p.err ≠ 0 → (inP ts p).err = p.err ∧ (inP ts p).fat = p.fat) := by
 unfold inP
 split
 ·unfold bad
  split
  ·rename_i he
   exact ⟨⟨h.lo, h.hi⟩, rfl, rfl, fun e => absurd he e⟩
  ·exact ⟨⟨h.lo, h.hi⟩, rfl, rfl, fun _ => ⟨rfl, rfl⟩⟩
 ·exact ⟨⟨h.lo, h.hi⟩, rfl, rfl, fun _ => ⟨rfl, rfl⟩⟩
omit ht in
theorem qjf (h : AtOk ts p) (hs : Step ts (inP ts p) q) : Step ts p (outP q) := by
 obtain ⟨h1, h2, h3, h4⟩ := qcy h
 refine ⟨by have := hs.le; show p.at_ ≤ q.at_; omega, hs.hi, by have := hs.deep; show q.deep - 1 = p.deep; omega, fun e => ?_⟩
 have h5 := h4 e
 have h6 := hs.err (by rw [h5.1]; exact e)
 subst h6
 show ({ (inP ts p) with deep := (inP ts p).deep - 1 } : Ps) = p
 rw [h3]
 cases p
 simp only [Ps.mk.injEq]
 exact ⟨h2, by simp, h5.1, h5.2⟩
omit ht in
theorem jmj {f : Ps → Tr × Ps} (hf : Runs ts f) (h : AtOk ts p) : Step ts p (ifOk f p).2 := by
 unfold ifOk
 split
 ·exact hf p h
 ·exact h.refl
theorem qgc : ∀ n, Runs ts (qap ts n)
 | 0 => fun p h => h.refl
 | n + 1 => fun p h => by
  unfold qap
  simp only
  split
  ·exact qbl ht h
  split
  ·rename_i hs
   have h1 := qi ht h hs
   exact h1.trans (qas ht (h1.ok h))
  split
  ·rename_i hs
   have h1 : Step ts p (adv p) := by rcases hs with hs | hs <;> exact qi ht h hs
   exact h1.trans (qjf (h1.ok h) (jmj (qgc n) (qcy (h1.ok h)).1))
  split
  ·rename_i hs
   have h1 := qi ht h hs
   have h2 := (qcy (h1.ok h)).1
   have h3 : Step ts (adv p) (outP (if (inP ts (adv p)).err = 0 then (qeg ts (qap ts n) (inP ts (adv p))).2 else inP ts (adv p))) := by
    refine qjf (h1.ok h) ?_
    split
    ·exact qry ht (qgc n) _ h2
    ·exact h2.refl
   exact h1.trans (h3.trans (ql ht (h3.ok (h1.ok h)) _))
  ·exact qas ht h
theorem qbi : Runs ts (eF ts) := qry ht (qgc ht _)
section
variable {stat : Ps → Tr × Ps} (hs : Runs ts stat)
include hs
theorem qhc : ∀ (n : Nat) (l : List Tr) (p : Ps), AtOk ts p → Step ts p (jm ts stat n l p).2
 | 0, l, p, h => h.refl
 | n + 1, l, p, h => by
  rw [jm]
  split
  ·split
   ·exact qi ht h (by assumption)
   ·exact (hs p h).trans (qhc n _ _ ((hs p h).ok h))
  ·exact h.refl
theorem qrz : Runs ts (qv ts stat) := fun p h => by
 have h1 := ql ht h sLc
 exact h1.trans (qjf (h1.ok h) (qhc ht hs _ _ _ (qcy (h1.ok h)).1))
end
theorem qpi {blk : Ps → Tr × Ps} (hb : Runs ts blk) : ∀ (n : Nat) (l : List Tr) (p : Ps), AtOk ts p → Step ts p (orL ts blk n l p).2
 | 0, l, p, h => h.refl
 | n + 1, l, p, h => by
  rw [orL]
  split
  ·have h1 := qi ht h (by assumption)
   have h2 := hb _ (h1.ok h)
   exact h1.trans (h2.trans (qpi hb n _ _ (h2.ok (h1.ok h))))
  ·exact h.refl
theorem jmk {blk : Ps → Tr × Ps} (hb : Runs ts blk) (a i : Int) : Runs ts (qdt ts blk a i) := fun p h => by
 unfold qdt
 split
 ·have h1 := qi ht h (by assumption)
  have h2 := qas ht (h1.ok h)
  have h3 := qas ht (h2.ok (h1.ok h))
  exact h1.trans (h2.trans (h3.trans (ql ht (h3.ok (h2.ok (h1.ok h))) _)))
 split
 ·have h1 := qi ht h (by assumption)
  have h2 := qbi ht _ (h1.ok h)
  exact h1.trans (h2.trans (ql ht (h2.ok (h1.ok h)) _))
 ·have h1 := ql ht h jg
  have h2 := hb _ (h1.ok h)
  exact h1.trans (h2.trans (qpi ht hb _ _ _ (h2.ok (h1.ok h))))
theorem qkm : ∀ n, Runs ts (qe ts n)
 | 0 => fun p h => h.refl
 | n + 1 => fun p h => by
  have hb := qrz ht (qkm n)
  unfold qe
  simp only
  split
  ·have h1 := qid ht h qee
   exact h1.trans (jmk ht hb _ _ _ (h1.ok h))
  split
  ·have h1 := qi ht h (by assumption)
   have h2 := qas ht (h1.ok h)
   have h3 := qbi ht _ (h2.ok (h1.ok h))
   exact h1.trans (h2.trans (h3.trans (ql ht (h3.ok (h2.ok (h1.ok h))) _)))
  split
  ·have h1 := qi ht h (by assumption)
   have h2 := qbi ht _ (h1.ok h)
   have h3 := hb _ (h2.ok (h1.ok h))
   have h4 := h1.trans (h2.trans h3)
   split
   ·have h5 := qi ht (h4.ok h) (by assumption)
    exact h4.trans (h5.trans (hb _ (h5.ok (h4.ok h))))
   ·exact h4
  split
  ·have h1 := qi ht h (by assumption)
   have h2 := qbi ht _ (h1.ok h)
   exact h1.trans (h2.trans (hb _ (h2.ok (h1.ok h))))
  split
  ·have h1 := qi ht h (by assumption)
   exact h1.trans (hb _ (h1.ok h))
  split
  ·have h1 := qi ht h (by assumption)
   exact h1.trans (ql ht (h1.ok h) _)
  split
  ·have h1 := qi ht h (by assumption)
   exact h1.trans (ql ht (h1.ok h) _)
  ·have h1 := qas ht h
   have h2 := ql ht (h1.ok h) sEq
   have h3 := qbi ht _ (h2.ok (h1.ok h))
   exact h1.trans (h2.trans (h3.trans (ql ht (h3.ok (h2.ok (h1.ok h))) _)))
theorem qjg : Runs ts (sF ts) := qkm ht _
theorem qmd : Runs ts (jx ts) := fun p h => by
 unfold jx
 simp only
 have h1 := ql ht h kVar
 have h2 := qas ht (h1.ok h)
 have h3 := h1.trans h2
 have h4 := h3.trans (ql ht (h3.ok h) kOf)
 have h5 := h4.trans (qbl ht (h4.ok h))
 split
 ·have h6 := h5.trans (qi ht (h5.ok h) (by assumption))
  split
  ·have h7 := h6.trans (qi ht (h6.ok h) (by assumption))
   have h8 := h7.trans (qbl ht (h7.ok h))
   exact h8.trans (ql ht (h8.ok h) _)
  ·have h8 := h6.trans (qbl ht (h6.ok h))
   exact h8.trans (ql ht (h8.ok h) _)
 ·exact h5.trans (ql ht (h5.ok h) _)
theorem qpj : ∀ (n : Nat) (l : List Tr) (p : Ps), AtOk ts p → Step ts p (qbt ts n l p).2
 | 0, l, p, h => h.refl
 | n + 1, l, p, h => by
  rw [qbt]
  split
  ·have h2 := qmd ht _ h
   exact h2.trans (qpj n _ _ (h2.ok h))
  ·exact h.refl
theorem jml : Runs ts (qdu ts) := fun p h => by
 unfold qdu
 simp only
 have h1 := ql ht h jc
 have h3 := h1.trans (qas ht (h1.ok h))
 have h4 : Step ts p (if sees ts (qg ts (must ts p jc)) qgb = true then (numN ts (adv (qg ts (must ts p jc))), numP ts (adv (qg ts (must ts p jc)))) else (1, qg ts (must ts p jc))).2 := by
  split
  ·have h5 := h3.trans (qi ht (h3.ok h) (by assumption))
   exact h5.trans (qbl ht (h5.ok h))
  ·exact h3
 have h5 := h4.trans (ql ht (h4.ok h) sLc)
 have h6 := h5.trans (qpj ht ts.length [] _ (h5.ok h))
 exact h6.trans (qjf (h6.ok h) (qhc ht (qjg ht) _ _ _ (qcy (h6.ok h)).1))
theorem qvt : Runs ts (itemF ts) := fun p h => by
 unfold itemF
 simp only
 split
 ·exact qmd ht _ h
 split
 ·exact jml ht _ h
 split
 ·have h1 := qi ht h (by assumption)
  have h2 := h1.trans (qas ht (h1.ok h))
  have h3 := h2.trans (ql ht (h2.ok h) sLb)
  have h4 := h3.trans (qbl ht (h3.ok h))
  have h5 := h4.trans (ql ht (h4.ok h) sRb)
  have h6 := h5.trans (ql ht (h5.ok h) kOf)
  have h7 := h6.trans (qbl ht (h6.ok h))
  have h8 := h7.trans (qid ht (h7.ok h) qib)
  have h9 := h8.trans (qid ht (h8.ok h) qjd)
  exact h9.trans (ql ht (h9.ok h) _)
 split
 ·have h1 := qi ht h (by assumption)
  have h2 := h1.trans (qbi ht _ (h1.ok h))
  exact h2.trans (ql ht (h2.ok h) _)
 ·have h1 := ql ht h qma
  exact h1.trans (ql ht (h1.ok h) _)
theorem qvu : ∀ (n : Nat) (l : List Tr) (p : Ps), AtOk ts p → Step ts p (qdv ts n l p).2
 | 0, l, p, h => h.refl
 | n + 1, l, p, h => by
  rw [qdv]
  split
  ·have h2 := qvt ht _ h
   exact h2.trans (qvu n _ _ (h2.ok h))
  ·exact h.refl
end
end Pa
end Go.Proofs.YtdoaagphhjggbaaGreat
