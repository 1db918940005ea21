/- The document's parser in plain Lean: it goes on, and keeps how deep it is. -/
import Derived.Test.YtdoaagphhjggbaaGreatQPa0
import Derived.Test.YtdoaagphhjggbaaGreatQ2
namespace Go.Proofs.YtdoaagphhjggbaaGreat
namespace Pa
open Go Go.Sx
structure ToksOk (ts : List Lx.Tok) : Prop where
 len : ts.length ≤ 5000
 last : ∀ i, i < ts.length → ((ts.getD i Lx.tok0).kind = 3 ↔ i + 1 = ts.length)
 num : ∀ t ∈ ts, t.kind = 1 → t.s.length ≤ 6 ∧ ∀ b ∈ t.s, 48 ≤ b.toNat ∧ b.toNat ≤ 57
structure AtOk (ts : List Lx.Tok) (p : Ps) : Prop where
 lo : 0 ≤ p.at_
 hi : p.at_ < ts.length
structure Step (ts : List Lx.Tok) (p q : Ps) : Prop where
 le : p.at_ ≤ q.at_
 hi : q.at_ < ts.length
 deep : q.deep = p.deep
 err : p.err ≠ 0 → q = p
theorem qzf (s : List UInt8) (b : UInt8) : qgg (s ++ [b]) = 10 * qgg s + ((b.toNat : Int) - 48) := by
 unfold qgg; rw [List.foldl_append]; rfl
theorem qtg {s : List UInt8} (h : ∀ b ∈ s, 48 ≤ b.toNat ∧ b.toNat ≤ 57) : ∀ i, i ≤ s.length → 0 ≤ qgg (s.take i) ∧ qgg (s.take i) < 10 ^ i
 | 0, _ => by simp [qgg]
 | i + 1, hi => by
  have h1 := qtg h i (by omega)
  rw [List.take_succ_eq_append_getElem (by omega), qzf, Int.pow_succ]
  have h2 := h _ (List.getElem_mem (by omega : i < s.length))
  omega
section
variable {ts : List Lx.Tok} {p q r : Ps}
theorem qzg (h : AtOk ts p) : tk ts p ∈ ts := by
 have h0 := h.lo
 have h1 := h.hi
 unfold tk
 rw [List.getD_eq_getElem?_getD, List.getElem?_eq_getElem (by omega)]
 exact List.getElem_mem _
theorem AtOk.refl (h : AtOk ts p) : Step ts p p := ⟨Int.le_refl _, h.hi, rfl, fun _ => rfl⟩
theorem Step.trans (h : Step ts p q) (k : Step ts q r) : Step ts p r :=
 ⟨Int.le_trans h.le k.le, k.hi, k.deep.trans h.deep, fun e => by have := h.err e; subst this; exact k.err e⟩
theorem Step.ok (h : AtOk ts p) (k : Step ts p q) : AtOk ts q := ⟨Int.le_trans h.lo k.le, k.hi⟩
theorem jkw {s : List UInt8} (h : sees ts p s = true) : p.err = 0 := by
 unfold sees at h
 simp only [Bool.and_eq_true, beq_iff_eq] at h
 exact h.1
theorem jkx {s : List UInt8} (h : sees ts p s = true) : (tk ts p).kind = 2 ∨ (tk ts p).kind = 0 := by
 unfold sees qtf at h
 simp only [Bool.and_eq_true, Bool.or_eq_true, beq_iff_eq] at h
 rcases h.2.2 with h | h
 ·exact .inl h
 ·exact .inr h.1
theorem jky (h : qhd ts p = true) : p.err = 0 := by
 unfold qhd at h; simp only [Bool.and_eq_true, beq_iff_eq] at h; exact h.2
theorem jkz (h : qgf ts p = true) : p.err = 0 := by
 unfold qgf at h; simp only [Bool.and_eq_true, beq_iff_eq] at h; exact h.2
variable (ht : ToksOk ts)
include ht
theorem jla (h : AtOk ts p) (hk : (tk ts p).kind ≠ 3) : p.at_ + 1 < ts.length := by
 have h0 := h.lo
 have h1 := h.hi
 have h2 := ht.last p.at_.toNat (by omega)
 have h3 : ¬ (p.at_.toNat + 1 = ts.length) := fun e => hk (h2.2 e)
 omega
theorem qth (h : AtOk ts p) (hk : (tk ts p).kind ≠ 3) (he : p.err = 0) : Step ts p (adv p) :=
 ⟨by show p.at_ ≤ p.at_ + 1; omega, jla ht h hk, rfl, fun e => absurd he e⟩
theorem qh (h : AtOk ts p) {s : List UInt8} (hs : sees ts p s = true) : Step ts p (adv p) :=
 qth ht h (by have := jkx hs; omega) (jkw hs)
omit ht in
theorem qti (h : AtOk ts p) (e : Int) : Step ts p (bad ts p e) := by
 unfold bad
 split
 ·rename_i he
  exact ⟨Int.le_refl _, h.hi, rfl, fun e => absurd he e⟩
 ·exact h.refl
theorem qhe (h : AtOk ts p) (s : List UInt8) : Step ts p (took ts p s) := by
 unfold took
 split
 ·exact qh ht h (by assumption)
 ·exact h.refl
theorem qj (h : AtOk ts p) (s : List UInt8) : Step ts p (must ts p s) := by
 unfold must
 split
 ·exact qh ht h (by assumption)
 ·exact qti h 11
theorem qam (h : AtOk ts p) : Step ts p (qf ts p) := by
 unfold qf
 split
 ·rename_i hn
  refine qth ht h ?_ (jky hn)
  unfold qhd at hn
  simp only [Bool.and_eq_true, beq_iff_eq] at hn
  omega
 ·exact qti h 11
theorem qbf (h : AtOk ts p) : Step ts p (numP ts p) := by
 unfold numP
 split
 ·rename_i hn
  refine qth ht h ?_ (jkz hn)
  unfold qgf at hn
  simp only [Bool.and_eq_true, beq_iff_eq] at hn
  omega
 ·exact qti h 11
abbrev Runs (ts : List Lx.Tok) (f : Ps → Tr × Ps) : Prop := ∀ p, AtOk ts p → Step ts p (f p).2
theorem qjj {f : Ps → Tr × Ps} (hf : Runs ts f) {c : Ps → Bool} {sg : Ps → Int} (hc : ∀ p, c p = true → ∃ s, sees ts p s = true) : ∀ (n : Nat) (a : Tr) (p : Ps), AtOk ts p → Step ts p (qap f c sg n a p).2
 | 0, a, p, h => h.refl
 | n + 1, a, p, h => by
  rw [qap]
  split
  ·rename_i hcp
   obtain ⟨s, hs⟩ := hc p hcp
   have h1 := qh ht h hs
   have h2 := hf _ (h1.ok h)
   exact h1.trans (h2.trans (qjj hf hc n _ _ (h2.ok (h1.ok h))))
  ·exact h.refl
theorem qzh {f : Ps → Tr × Ps} (hf : Runs ts f) (s : List UInt8) (sg : Int) : Runs ts (qky ts f s sg) := fun p h => by
 have h1 := hf p h
 unfold qky
 split
 ·rename_i hs
  have h2 := qh ht (h1.ok h) hs
  exact h1.trans (h2.trans (hf _ (h2.ok (h1.ok h))))
 ·exact h1
omit ht in
theorem qzi {p : Ps} (h : qdr ts p = true) : ∃ s, sees ts p s = true := by
 unfold qdr at h
 simp only [Bool.or_eq_true] at h
 rcases h with h | h | h <;> exact ⟨_, h⟩
omit ht in
theorem qzj {p : Ps} (h : sumC ts p = true) : ∃ s, sees ts p s = true := by
 unfold sumC at h
 simp only [Bool.or_eq_true] at h
 rcases h with h | h <;> exact ⟨_, h⟩
section
variable {part : Ps → Tr × Ps} (hp : Runs ts part)
include hp
theorem qnf : Runs ts (qbz ts part) := fun p h => (hp p h).trans (qjj ht hp (fun _ => qzi) _ _ _ ((hp p h).ok h))
theorem qtj : Runs ts (sumF ts part) := fun p h => (qnf ht hp p h).trans (qjj ht (qnf ht hp) (fun _ => qzj) _ _ _ ((qnf ht hp p h).ok h))
theorem qtk : Runs ts (qbt ts part) := qzh ht (qtj ht hp) _ _
theorem qng : Runs ts (qdd ts part) := qzh ht (qtk ht hp) _ _
theorem qnh : Runs ts (andF ts part) := fun p h => (qng ht hp p h).trans (qjj ht (qng ht hp) (fun _ h => ⟨_, h⟩) _ _ _ ((qng ht hp p h).ok h))
theorem qqe : Runs ts (qds ts part) := fun p h => (qnh ht hp p h).trans (qjj ht (qnh ht hp) (fun _ h => ⟨_, h⟩) _ _ _ ((qnh ht hp p h).ok h))
end
omit ht in
theorem qci (h : AtOk ts p) : AtOk ts (inP ts p) ∧ (inP ts p).at_ = p.at_ ∧ (inP ts p).deep = p.deep + 1 ∧ (p.err ≠ 0 → (inP ts p).err = p.err ∧ (inP ts p).fat = p.fat) := by
 unfold inP
 split
 ·unfold bad
  split
  ·rename_i he
   exact ⟨⟨h.lo, h.hi⟩, rfl, rfl, fun e => absurd he e⟩
  ·exact ⟨⟨h.lo, h.hi⟩, rfl, rfl, fun _ => ⟨rfl, rfl⟩⟩
 ·exact ⟨⟨h.lo, h.hi⟩, rfl, rfl, fun _ => ⟨rfl, rfl⟩⟩
omit ht in
theorem qid (h : AtOk ts p) (hs : Step ts (inP ts p) q) : Step ts p (outP q) := by
 obtain ⟨h1, h2, h3, h4⟩ := qci h
 refine ⟨by have := hs.le; show p.at_ ≤ q.at_; omega, hs.hi, by have := hs.deep; show q.deep - 1 = p.deep; omega, fun e => ?_⟩
 have h5 := h4 e
 have h6 := hs.err (by rw [h5.1]; exact e)
 subst h6
 show ({ (inP ts p) with deep := (inP ts p).deep - 1 } : Ps) = p
 rw [h3]
 cases p
 simp only [Ps.mk.injEq]
 exact ⟨h2, by simp, h5.1, h5.2⟩
omit ht in
theorem jlb {f : Ps → Tr × Ps} (hf : Runs ts f) (h : AtOk ts p) : Step ts p (ifOk f p).2 := by
 unfold ifOk
 split
 ·exact hf p h
 ·exact h.refl
theorem qfd : ∀ n, Runs ts (qak ts n)
 | 0 => fun p h => h.refl
 | n + 1 => fun p h => by
  unfold qak
  simp only
  split
  ·exact qbf ht h
  split
  ·rename_i hs
   have h1 := qh ht h hs
   exact h1.trans (qam ht (h1.ok h))
  split
  ·rename_i hs
   have h1 : Step ts p (adv p) := by rcases hs with hs | hs <;> exact qh ht h hs
   exact h1.trans (qid (h1.ok h) (jlb (qfd n) (qci (h1.ok h)).1))
  split
  ·rename_i hs
   have h1 := qh ht h hs
   have h2 := (qci (h1.ok h)).1
   have h3 : Step ts (adv p) (outP (if (inP ts (adv p)).err = 0 then (qds ts (qak ts n) (inP ts (adv p))).2 else inP ts (adv p))) := by
    refine qid (h1.ok h) ?_
    split
    ·exact qqe ht (qfd n) _ h2
    ·exact h2.refl
   exact h1.trans (h3.trans (qj ht (h3.ok (h1.ok h)) _))
  ·exact qam ht h
theorem qba : Runs ts (eF ts) := qqe ht (qfd ht _)
section
variable {stat : Ps → Tr × Ps} (hs : Runs ts stat)
include hs
theorem qgi : ∀ (n : Nat) (l : List Tr) (p : Ps), AtOk ts p → Step ts p (jg ts stat n l p).2
 | 0, l, p, h => h.refl
 | n + 1, l, p, h => by
  rw [jg]
  split
  ·split
   ·exact qh ht h (by assumption)
   ·exact (hs p h).trans (qgi n _ _ ((hs p h).ok h))
  ·exact h.refl
theorem qqf : Runs ts (qr ts stat) := fun p h => by
 have h1 := qj ht h sLc
 exact h1.trans (qid (h1.ok h) (qgi ht hs _ _ _ (qci (h1.ok h)).1))
end
theorem qni {blk : Ps → Tr × Ps} (hb : Runs ts blk) : ∀ (n : Nat) (l : List Tr) (p : Ps), AtOk ts p → Step ts p (orL ts blk n l p).2
 | 0, l, p, h => h.refl
 | n + 1, l, p, h => by
  rw [orL]
  split
  ·have h1 := qh ht h (by assumption)
   have h2 := hb _ (h1.ok h)
   exact h1.trans (h2.trans (qni hb n _ _ (h2.ok (h1.ok h))))
  ·exact h.refl
theorem jlc {blk : Ps → Tr × Ps} (hb : Runs ts blk) (a i : Int) : Runs ts (qde ts blk a i) := fun p h => by
 unfold qde
 split
 ·have h1 := qh ht h (by assumption)
  have h2 := qam ht (h1.ok h)
  have h3 := qam ht (h2.ok (h1.ok h))
  exact h1.trans (h2.trans (h3.trans (qj ht (h3.ok (h2.ok (h1.ok h))) _)))
 split
 ·have h1 := qh ht h (by assumption)
  have h2 := qba ht _ (h1.ok h)
  exact h1.trans (h2.trans (qj ht (h2.ok (h1.ok h)) _))
 ·have h1 := qj ht h jc
  have h2 := hb _ (h1.ok h)
  exact h1.trans (h2.trans (qni ht hb _ _ _ (h2.ok (h1.ok h))))
theorem qjk : ∀ n, Runs ts (qe ts n)
 | 0 => fun p h => h.refl
 | n + 1 => fun p h => by
  have hb := qqf ht (qjk n)
  unfold qe
  simp only
  split
  ·have h1 := qhe ht h qdq
   exact h1.trans (jlc ht hb _ _ _ (h1.ok h))
  split
  ·have h1 := qh ht h (by assumption)
   have h2 := qam ht (h1.ok h)
   have h3 := qba ht _ (h2.ok (h1.ok h))
   exact h1.trans (h2.trans (h3.trans (qj ht (h3.ok (h2.ok (h1.ok h))) _)))
  split
  ·have h1 := qh ht h (by assumption)
   have h2 := qba ht _ (h1.ok h)
   have h3 := hb _ (h2.ok (h1.ok h))
   have h4 := h1.trans (h2.trans h3)
   split
   ·have h5 := qh ht (h4.ok h) (by assumption)
    exact h4.trans (h5.trans (hb _ (h5.ok (h4.ok h))))
   ·exact h4
  split
  ·have h1 := qh ht h (by assumption)
   have h2 := qba ht _ (h1.ok h)
   exact h1.trans (h2.trans (hb _ (h2.ok (h1.ok h))))
  split
  ·have h1 := qh ht h (by assumption)
   exact h1.trans (hb _ (h1.ok h))
  split
  ·have h1 := qh ht h (by assumption)
   exact h1.trans (qj ht (h1.ok h) _)
  split
  ·have h1 := qh ht h (by assumption)
   exact h1.trans (qj ht (h1.ok h) _)
  ·have h1 := qam ht h
   have h2 := qj ht (h1.ok h) sEq
   have h3 := qba ht _ (h2.ok (h1.ok h))
   exact h1.trans (h2.trans (h3.trans (qj ht (h3.ok (h2.ok (h1.ok h))) _)))
theorem qie : Runs ts (sF ts) := qjk ht _
theorem qla : Runs ts (js ts) := fun p h => by
 unfold js
 simp only
 have h1 := qj ht h kVar
 have h2 := qam ht (h1.ok h)
 have h3 := h1.trans h2
 have h4 := h3.trans (qj ht (h3.ok h) kOf)
 have h5 := h4.trans (qbf ht (h4.ok h))
 split
 ·have h6 := h5.trans (qh ht (h5.ok h) (by assumption))
  split
  ·have h7 := h6.trans (qh ht (h6.ok h) (by assumption))
   have h8 := h7.trans (qbf ht (h7.ok h))
   exact h8.trans (qj ht (h8.ok h) _)
  ·have h8 := h6.trans (qbf ht (h6.ok h))
   exact h8.trans (qj ht (h8.ok h) _)
 ·exact h5.trans (qj ht (h5.ok h) _)
theorem qnj : ∀ (n : Nat) (l : List Tr) (p : Ps), AtOk ts p → Step ts p (qbk ts n l p).2
 | 0, l, p, h => h.refl
 | n + 1, l, p, h => by
  rw [qbk]
  split
  ·have h2 := qla ht _ h
   exact h2.trans (qnj n _ _ (h2.ok h))
  ·exact h.refl
theorem jld : Runs ts (qdf ts) := fun p h => by
 unfold qdf
 simp only
 have h1 := qj ht h qy
 have h3 := h1.trans (qam ht (h1.ok h))
 have h4 : Step ts p (if sees ts (qf ts (must ts p qy)) qfc = true then (numN ts (adv (qf ts (must ts p qy))), numP ts (adv (qf ts (must ts p qy)))) else (1, qf ts (must ts p qy))).2 := by
  split
  ·have h5 := h3.trans (qh ht (h3.ok h) (by assumption))
   exact h5.trans (qbf ht (h5.ok h))
  ·exact h3
 have h5 := h4.trans (qj ht (h4.ok h) sLc)
 have h6 := h5.trans (qnj ht ts.length [] _ (h5.ok h))
 exact h6.trans (qid (h6.ok h) (qgi ht (qie ht) _ _ _ (qci (h6.ok h)).1))
theorem qtl : Runs ts (itemF ts) := fun p h => by
 unfold itemF
 simp only
 split
 ·exact qla ht _ h
 split
 ·exact jld ht _ h
 split
 ·have h1 := qh ht h (by assumption)
  have h2 := h1.trans (qam ht (h1.ok h))
  have h3 := h2.trans (qj ht (h2.ok h) sLb)
  have h4 := h3.trans (qbf ht (h3.ok h))
  have h5 := h4.trans (qj ht (h4.ok h) sRb)
  have h6 := h5.trans (qj ht (h5.ok h) kOf)
  have h7 := h6.trans (qbf ht (h6.ok h))
  have h8 := h7.trans (qhe ht (h7.ok h) qhc)
  have h9 := h8.trans (qhe ht (h8.ok h) qib)
  exact h9.trans (qj ht (h9.ok h) _)
 split
 ·have h1 := qh ht h (by assumption)
  have h2 := h1.trans (qba ht _ (h1.ok h))
  exact h2.trans (qj ht (h2.ok h) _)
 ·have h1 := qj ht h qkx
  exact h1.trans (qj ht (h1.ok h) _)
theorem qtm : ∀ (n : Nat) (l : List Tr) (p : Ps), AtOk ts p → Step ts p (qdg ts n l p).2
 | 0, l, p, h => h.refl
 | n + 1, l, p, h => by
  rw [qdg]
  split
  ·have h2 := qtl ht _ h
   exact h2.trans (qtm n _ _ (h2.ok h))
  ·exact h.refl
end
end Pa
end Go.Proofs.YtdoaagphhjggbaaGreat
