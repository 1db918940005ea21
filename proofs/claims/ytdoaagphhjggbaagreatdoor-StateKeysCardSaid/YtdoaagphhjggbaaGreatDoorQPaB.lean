/- The document's parser in plain Lean: a tree has no more nodes than tokens are read. -/
import Derived.Test.YtdoaagphhjggbaaGreatDoorQPaA
import Derived.Test.YtdoaagphhjggbaaGreatDoorQ2
namespace Go.Proofs.YtdoaagphhjggbaaGreatDoor
namespace Pa
open Go Go.Sx
theorem Tr.size_mk (k : Int) (w : List (List UInt8)) (ns : List Int) (a : Int) (l : List Tr) : (Tr.mk k w ns a l).size = 1 + Tr.sizeL l := by rw [Tr.size]
theorem Tr.sizeL_snoc : ∀ (l : List Tr) (t : Tr), Tr.sizeL (l ++ [t]) = Tr.sizeL l + t.size
 | [], t => by simp [Tr.sizeL]
 | x :: r, t => by rw [List.cons_append, Tr.sizeL, Tr.sizeL_snoc r t, Tr.sizeL]; omega
theorem Tr.sizeL_one (t : Tr) : Tr.sizeL [t] = t.size := by simp [Tr.sizeL]
theorem Tr.sizeL_two (t u : Tr) : Tr.sizeL [t, u] = t.size + u.size := by simp [Tr.sizeL]
theorem Tr.sizeL_three (t u v : Tr) : Tr.sizeL [t, u, v] = t.size + (u.size + v.size) := by simp [Tr.sizeL]
theorem jba (sg : Int) (a b : Tr) : (binT sg a b).size = 1 + (a.size + b.size) := by unfold binT; rw [Tr.size_mk, Tr.sizeL_two]
abbrev Fit (ts : List Lx.Tok) (n : Nat) (f : Ps → Tr × Ps) : Prop := ∀ p, AtOk ts p → (ts.length : Int) ≤ p.at_ + n → (f p).2.err = 0 → ((f p).1.size : Int) + p.at_ ≤ (f p).2.at_
section
variable {ts : List Lx.Tok} {p q r : Ps} {m : Nat}
variable (ht : ToksOk ts)
include ht
theorem jbb {f : Ps → Tr × Ps} (hf : Runs ts f) (hF : Fit ts m f) {c : Ps → Bool} {sg : Ps → Int} (hc : ∀ p, c p = true → ∃ s, sees ts p s = true) :
  ∀ (n : Nat) (a : Tr) (p : Ps), AtOk ts p → (ts.length : Int) ≤ p.at_ + m → (qaf f c sg n a p).2.err = 0 → ((qaf f c sg n a p).1.size : Int) + p.at_ ≤ a.size + (qaf f c sg n a p).2.at_
 | 0, a, p, _, _, _ => by rw [qaf]; exact Int.le_refl _
 | n + 1, a, p, h, hl, he => by
  rw [qaf] at he ⊢
  split
  ·rename_i hcp
   rw [if_pos hcp] at he
   obtain ⟨s, hs⟩ := hc p hcp
   have h1 := qf ht h hs
   have h2 := hf _ (h1.ok h)
   have h3 := qik ht hf hc (sg := sg) n (binT (sg p) a (f (adv p)).1) _ (h2.ok (h1.ok h))
   have e1 : (adv p).at_ = p.at_ + 1 := rfl
   have h4 := hF _ (h1.ok h) (by omega) (h3.err0 he)
   have h6 := h2.le
   have h5 := jbb hf hF hc (sg := sg) n (binT (sg p) a (f (adv p)).1) _ (h2.ok (h1.ok h)) (by omega) he
   rw [jba] at h5
   omega
  ·exact Int.le_refl _
theorem qpm {f : Ps → Tr × Ps} (hf : Runs ts f) (hF : Fit ts m f) {c : Ps → Bool} {sg : Ps → Int} (hc : ∀ p, c p = true → ∃ s, sees ts p s = true) (n : Nat) :
  Fit ts m (fun p => qaf f c sg n (f p).1 (f p).2) := fun p h hl he => by
 have h1 := hf p h
 have h2 := qik ht hf hc (sg := sg) n (f p).1 _ (h1.ok h)
 have h3 := hF p h hl (h2.err0 he)
 have h4 := h1.le
 have h5 := jbb ht hf hF hc (sg := sg) n (f p).1 _ (h1.ok h) (by omega) he
 simp only at h5 ⊢
 omega
theorem jbc {f : Ps → Tr × Ps} (hf : Runs ts f) (hF : Fit ts m f) (s : List UInt8) (sg : Int) : Fit ts m (qjy ts f s sg) := fun p h hl he => by
 have h1 := hf p h
 unfold qjy at he ⊢
 split
 ·rename_i hs
  rw [if_pos hs] at he
  have h2 := qf ht (h1.ok h) hs
  have h3 := hf _ (h2.ok (h1.ok h))
  have e1 : (adv (f p).2).at_ = (f p).2.at_ + 1 := rfl
  have h4 := hF p h hl (h2.err0 (h3.err0 he))
  have h5 := h1.le
  have h6 := hF _ (h2.ok (h1.ok h)) (by omega) he
  simp only
  rw [jba]
  omega
 ·rename_i hs
  rw [if_neg hs] at he
  exact hF p h hl he
section
variable {part : Ps → Tr × Ps} (hp : Runs ts part) (hP : Fit ts m part)
include hp hP
theorem jmm : Fit ts m (qbr ts part) := qpm ht hp hP (fun _ => jac) _
theorem jmn : Fit ts m (sumF ts part) := qpm ht (qmh ht hp) (jmm ht hp hP) (fun _ => jad) _
theorem jmo : Fit ts m (qbl ts part) := jbc ht (qtb ht hp) (jmn ht hp hP) _ _
theorem jmp : Fit ts m (qcr ts part) := jbc ht (qtc ht hp) (jmo ht hp hP) _ _
theorem jmq : Fit ts m (andF ts part) := qpm ht (qmi ht hp) (jmp ht hp hP) (fun _ h => ⟨_, h⟩) _
theorem jbd : Fit ts m (qdd ts part) := qpm ht (qmj ht hp) (jmq ht hp hP) (fun _ h => ⟨_, h⟩) _
end
theorem qtq : ∀ n, Fit ts n (qaa ts n)
 | 0 => fun p h hl _ => by have := h.hi; omega
 | n + 1 => fun p h hl he => by
  unfold qaa at he ⊢
  simp only at he ⊢
  split
  ·rename_i hs
   rw [if_pos hs] at he
   have := jlq he
   simp only [Tr.size_mk, Tr.sizeL] at this ⊢
   omega
  rename_i hs
  rw [if_neg hs] at he
  split
  ·rename_i hs
   rw [if_pos hs] at he
   have := qpk he
   have e1 : (adv p).at_ = p.at_ + 1 := rfl
   simp only [Tr.size_mk, Tr.sizeL] at this ⊢
   omega
  rename_i hs
  rw [if_neg hs] at he
  split
  ·rename_i hs
   rw [if_pos hs] at he
   have h1 : Step ts p (adv p) := by rcases hs with hs | hs <;> exact qf ht h hs
   have h2 := qbz (h1.ok h)
   have e1 : (adv p).at_ = p.at_ + 1 := rfl
   have h3 := qen ht n _ h2.1
   simp only [Tr.size_mk]
   have he' : (ifOk (qaa ts n) (inP ts (adv p))).2.err = 0 := he
   unfold ifOk at he' ⊢
   split
   ·rename_i hi
    rw [if_pos hi] at he'
    have h4 := qtq n _ h2.1 (by omega) he'
    simp only [Tr.sizeL_one]
    have e2 : (outP (qaa ts n (inP ts (adv p))).2).at_ = (qaa ts n (inP ts (adv p))).2.at_ := rfl
    omega
   ·simp only [Tr.sizeL]
    have e2 : (outP (inP ts (adv p))).at_ = (inP ts (adv p)).at_ := rfl
    omega
  rename_i hs
  rw [if_neg hs] at he
  split
  ·rename_i hs
   rw [if_pos hs] at he
   have h1 := qf ht h hs
   have h2 := qbz (h1.ok h)
   have e1 : (adv p).at_ = p.at_ + 1 := rfl
   have h3 : Step ts (adv p) (outP (if (inP ts (adv p)).err = 0 then (qdd ts (qaa ts n) (inP ts (adv p))).2 else inP ts (adv p))) := by
    refine qhl (h1.ok h) ?_
    split
    ·exact qpg ht (qen ht n) _ h2.1
    ·exact h2.1.refl
   have h4 := qi ht (h3.ok (h1.ok h)) sRp
   have h5 := h4.err0 he
   have h6 := h4.le
   split
   ·rename_i hi
    rw [if_pos hi] at h5 h6
    have h7 := jbd ht (qen ht n) (qtq n) _ h2.1 (by omega) h5
    have e2 : (outP (qdd ts (qaa ts n) (inP ts (adv p))).2).at_ = (qdd ts (qaa ts n) (inP ts (adv p))).2.at_ := rfl
    simp only at h6 ⊢
    omega
   ·rename_i hi
    rw [if_neg hi] at h5
    exact absurd h5 hi
  ·rename_i hs
   rw [if_neg hs] at he
   have := qpk he
   simp only [Tr.size_mk, Tr.sizeL] at this ⊢
   omega
theorem qip (h : AtOk ts p) (he : (eF ts p).2.err = 0) : ((eF ts p).1.size : Int) + p.at_ ≤ (eF ts p).2.at_ :=
 jbd ht (qen ht _) (qtq ht _) p h (by have := h.lo; omega) he
theorem qtr {stat : Ps → Tr × Ps} (hs : Runs ts stat) (hS : Fit ts m stat) : ∀ (n : Nat) (l : List Tr) (p : Ps), AtOk ts p → (ts.length : Int) ≤ p.at_ + m → (jc ts stat n l p).2.err = 0 → (Tr.sizeL (jc ts stat n l p).1 : Int) + p.at_ ≤ Tr.sizeL l + (jc ts stat n l p).2.at_
 | 0, l, p, _, _, _ => by rw [jc]; exact Int.le_refl _
 | n + 1, l, p, h, hl, he => by
  rw [jc] at he ⊢
  by_cases h0 : p.err = 0
  ·rw [if_pos h0] at he ⊢
   by_cases hb : sees ts p sRc = true
   ·rw [if_pos hb]
    have e1 : (adv p).at_ = p.at_ + 1 := rfl
    simp only; omega
   ·rw [if_neg hb] at he ⊢
    have h1 := hs p h
    have h2 := qfk ht hs n (l ++ [(stat p).1]) _ (h1.ok h)
    have h3 := hS p h hl (h2.err0 he)
    have h4 := h1.le
    have h5 := qtr hs hS n (l ++ [(stat p).1]) _ (h1.ok h) (by omega) he
    rw [Tr.sizeL_snoc] at h5
    omega
  ·rw [if_neg h0]
   exact Int.le_refl _
theorem jmr {stat : Ps → Tr × Ps} (hs : Runs ts stat) (hS : Fit ts m stat) (h : AtOk ts p) (hl : (ts.length : Int) ≤ p.at_ + m + 1) (he : (qm ts stat p).2.err = 0) : ((qm ts stat p).1.size : Int) + p.at_ ≤ (qm ts stat p).2.at_ := by
 have h1 := qi ht h sLc
 have h0 := qbz (h1.ok h)
 have h2 := qhl (h1.ok h) (qfk ht hs ts.length [] _ h0.1)
 have h3 := (qfl (h2.err0 he)).2
 have h4 := qtr ht hs hS ts.length [] _ h0.1 (by omega) he
 unfold qm
 simp only [Tr.size_mk]
 have e2 : (outP (jc ts stat ts.length [] (inP ts (must ts p sLc))).2).at_ = (jc ts stat ts.length [] (inP ts (must ts p sLc))).2.at_ := rfl
 have e3 : Tr.sizeL [] = 0 := rfl
 omega
theorem jbe {blk : Ps → Tr × Ps} (hb : Runs ts blk) (hB : Fit ts m blk) : ∀ (n : Nat) (l : List Tr) (p : Ps), AtOk ts p → (ts.length : Int) ≤ p.at_ + m → (orL ts blk n l p).2.err = 0 → (Tr.sizeL (orL ts blk n l p).1 : Int) + p.at_ ≤ Tr.sizeL l + (orL ts blk n l p).2.at_
 | 0, l, p, _, _, _ => by rw [orL]; exact Int.le_refl _
 | n + 1, l, p, h, hl, he => by
  rw [orL] at he ⊢
  split
  ·rename_i hs
   rw [if_pos hs] at he
   have h1 := qf ht h hs
   have h2 := hb _ (h1.ok h)
   have h3 := qmk ht hb n (l ++ [(blk (adv p)).1]) _ (h2.ok (h1.ok h))
   have e1 : (adv p).at_ = p.at_ + 1 := rfl
   have h4 := hB _ (h1.ok h) (by omega) (h3.err0 he)
   have h6 := h2.le
   have h5 := jbe hb hB n (l ++ [(blk (adv p)).1]) _ (h2.ok (h1.ok h)) (by omega) he
   rw [Tr.sizeL_snoc] at h5
   omega
  ·exact Int.le_refl _
theorem jms {blk : Ps → Tr × Ps} (hb : Runs ts blk) (hB : Fit ts m blk) (a i : Int) : Fit ts m (qcs ts blk a i) := fun p h hl he => by
 unfold qcs at he ⊢
 split
 ·rename_i hs
  rw [if_pos hs] at he
  have h1 := qf ht h hs
  have h2 := qad ht (h1.ok h)
  have h3 := qad ht (h2.ok (h1.ok h))
  have h4 := h2.trans (h3.trans (qi ht (h3.ok (h2.ok (h1.ok h))) ql))
  have : p.at_ + 1 ≤ _ := h4.le
  simp only [Tr.size_mk, Tr.sizeL]; omega
 ·rename_i hs
  rw [if_neg hs] at he
  split
  ·rename_i hw
   rw [if_pos hw] at he
   have h1 := qf ht h hw
   have h2 := qat ht _ (h1.ok h)
   have h4 := qi ht (h2.ok (h1.ok h)) ql
   have h5 := qip ht (h1.ok h) (h4.err0 he)
   have h6 := h4.le
   have e1 : (adv p).at_ = p.at_ + 1 := rfl
   simp only [Tr.size_mk, Tr.sizeL_one]; omega
  ·rename_i hw
   rw [if_neg hw] at he
   have h1 := qi ht h qx
   have h2 := hb _ (h1.ok h)
   have h3 := qmk ht hb ts.length [(blk (must ts p qx)).1] _ (h2.ok (h1.ok h))
   have h4 := (qfl (h2.err0 (h3.err0 he))).2
   have h5 := hB _ (h1.ok h) (by omega) (h3.err0 he)
   have h7 := h2.le
   have h6 := jbe ht hb hB ts.length [(blk (must ts p qx)).1] _ (h2.ok (h1.ok h)) (by omega) he
   rw [Tr.sizeL_one] at h6
   simp only [Tr.size_mk] at h6 ⊢; omega
theorem jbf : ∀ n, Fit ts n (qc ts n)
 | 0 => fun p h hl _ => by have := h.hi; omega
 | n + 1 => fun p h hl he => by
  have hb := qph ht (qil ht n)
  have hB : ∀ q, AtOk ts q → (ts.length : Int) ≤ q.at_ + n + 1 → (qm ts (qc ts n) q).2.err = 0 → ((qm ts (qc ts n) q).1.size : Int) + q.at_ ≤ (qm ts (qc ts n) q).2.at_ := fun q hq hlq heq => jmr ht (qil ht n) (jbf n) hq hlq heq
  unfold qc at he ⊢
  simp only at he ⊢
  split
  ·rename_i hw
   rw [if_pos hw] at he
   have h1 := qgl ht h qdb
   have h2 := h1.le
   have := jms ht hb (m := n + 1) (fun q hq hlq heq => hB q hq (by omega) heq) _ _ _ (h1.ok h) (by omega) he
   omega
  rename_i hw
  rw [if_neg hw] at he
  split
  ·rename_i hw
   rw [if_pos hw] at he
   have h1 := qf ht h hw
   have h2 := qad ht (h1.ok h)
   have h3 := qat ht _ (h2.ok (h1.ok h))
   have h4 := qi ht (h3.ok (h2.ok (h1.ok h))) ql
   have h5 := qip ht (h2.ok (h1.ok h)) (h4.err0 he)
   have h6 := h4.le
   have h7 : p.at_ + 1 ≤ _ := h2.le
   simp only [Tr.size_mk, Tr.sizeL_one]; omega
  rename_i hw
  rw [if_neg hw] at he
  split
  ·rename_i hw
   rw [if_pos hw] at he
   have h1 := qf ht h hw
   have h2 := qat ht _ (h1.ok h)
   have h3 := hb _ (h2.ok (h1.ok h))
   have e1 : (adv p).at_ = p.at_ + 1 := rfl
   have hl2 := h2.le
   have hl3 := h3.le
   split
   ·rename_i hx
    rw [if_pos hx] at he
    have h5 := qf ht (h3.ok (h2.ok (h1.ok h))) hx
    have h6 := hb _ (h5.ok (h3.ok (h2.ok (h1.ok h))))
    have h7 := h5.err0 (h6.err0 he)
    have h8 := qip ht (h1.ok h) (h3.err0 h7)
    have h9 := hB _ (h2.ok (h1.ok h)) (by omega) h7
    have e2 : (adv (qm ts (qc ts n) (eF ts (adv p)).2).2).at_ = (qm ts (qc ts n) (eF ts (adv p)).2).2.at_ + 1 := rfl
    have h10 := hB _ (h5.ok (h3.ok (h2.ok (h1.ok h)))) (by omega) he
    simp only [Tr.size_mk, Tr.sizeL_three]; omega
   ·rename_i hx
    rw [if_neg hx] at he
    have h8 := qip ht (h1.ok h) (h3.err0 he)
    have h9 := hB _ (h2.ok (h1.ok h)) (by omega) he
    simp only [Tr.size_mk, Tr.sizeL_two]; omega
  rename_i hw
  rw [if_neg hw] at he
  split
  ·rename_i hw
   rw [if_pos hw] at he
   have h1 := qf ht h hw
   have h2 := qat ht _ (h1.ok h)
   have h3 := hb _ (h2.ok (h1.ok h))
   have e1 : (adv p).at_ = p.at_ + 1 := rfl
   have hl2 := h2.le
   have h8 := qip ht (h1.ok h) (h3.err0 he)
   have h9 := hB _ (h2.ok (h1.ok h)) (by omega) he
   simp only [Tr.size_mk, Tr.sizeL_two]; omega
  rename_i hw
  rw [if_neg hw] at he
  split
  ·rename_i hw
   rw [if_pos hw] at he
   have h1 := qf ht h hw
   have e1 : (adv p).at_ = p.at_ + 1 := rfl
   have h9 := hB _ (h1.ok h) (by omega) he
   simp only [Tr.size_mk, Tr.sizeL_one]; omega
  rename_i hw
  rw [if_neg hw] at he
  split
  ·have h1 := qf ht h (by assumption)
   have h4 : p.at_ + 1 ≤ _ := (qi ht (h1.ok h) ql).le
   simp only [Tr.size_mk, Tr.sizeL]; omega
  rename_i hw
  rw [if_neg hw] at he
  split
  ·have h1 := qf ht h (by assumption)
   have h4 : p.at_ + 1 ≤ _ := (qi ht (h1.ok h) ql).le
   simp only [Tr.size_mk, Tr.sizeL]; omega
  rename_i hw
  rw [if_neg hw] at he
  have h1 := qad ht h
  have h2 := qi ht (h1.ok h) sEq
  have h3 := qat ht _ (h2.ok (h1.ok h))
  have h4 := qi ht (h3.ok (h2.ok (h1.ok h))) ql
  have h5 := qpk (h2.err0 (h3.err0 (h4.err0 he)))
  have h6 := h4.le
  have h7 := h2.le
  have h8 := qip ht (h2.ok (h1.ok h)) (h4.err0 he)
  simp only [Tr.size_mk, Tr.sizeL_one]; omega
theorem fit_s : Fit ts ts.length (sF ts) := jbf ht _
theorem jbg (h : AtOk ts p) (he : (jk ts p).2.err = 0) : ((jk ts p).1.size : Int) + p.at_ ≤ (jk ts p).2.at_ := by
 have h1 := jai ht p h he
 have h2 : (jk ts p).1.size = 1 := by unfold jk; simp only [Tr.size_mk, Tr.sizeL]
 omega
theorem jbh : ∀ (n : Nat) (l : List Tr) (p : Ps), AtOk ts p → (qbc ts n l p).2.err = 0 → (Tr.sizeL (qbc ts n l p).1 : Int) + p.at_ ≤ Tr.sizeL l + (qbc ts n l p).2.at_
 | 0, l, p, _, _ => by rw [qbc]; exact Int.le_refl _
 | n + 1, l, p, h, he => by
  rw [qbc] at he ⊢
  split
  ·rename_i hs
   rw [if_pos hs] at he
   have h1 := qka ht _ h
   have h2 := qml ht n (l ++ [(jk ts p).1]) _ (h1.ok h)
   have h3 := jbg ht h (h2.err0 he)
   have h5 := jbh n (l ++ [(jk ts p).1]) _ (h1.ok h) he
   rw [Tr.sizeL_snoc] at h5
   omega
  ·exact Int.le_refl _
theorem jmt (h : AtOk ts p) (he : (qct ts p).2.err = 0) : ((qct ts p).1.size : Int) + p.at_ ≤ (qct ts p).2.at_ := by
 have h0 := qi ht h qr
 unfold qct at he ⊢
 simp only at he ⊢
 have h1 := h0.ok h
 have h3 := qad ht h1
 have h4 : Step ts (must ts p qr) (if sees ts (qd ts (must ts p qr)) qem = true then (numN ts (adv (qd ts (must ts p qr))), numP ts (adv (qd ts (must ts p qr)))) else (1, qd ts (must ts p qr))).2 := by
  split
  ·have h5 := h3.trans (qf ht (h3.ok h1) (by assumption))
   exact h5.trans (qaw ht (h5.ok h1))
  ·exact h3
 have h5 := h4.trans (qi ht (h4.ok h1) sLc)
 generalize (must ts (if sees ts (qd ts (must ts p qr)) qem = true then (numN ts (adv (qd ts (must ts p qr))), numP ts (adv (qd ts (must ts p qr)))) else (1, qd ts (must ts p qr))).2 sLc) = R at he h5 ⊢
 have h6 := qml ht ts.length [] R (h5.ok h1)
 have h7 := fun he => jbh ht ts.length [] R (h5.ok h1) he
 generalize qbc ts ts.length [] R = V at he h6 h7 ⊢
 have h8 := qbz (h6.ok (h5.ok h1))
 have h9 := qhl (h6.ok (h5.ok h1)) (qfk ht (qhm ht) ts.length V.1 _ h8.1)
 have h10 := h7 (h9.err0 he)
 have hlo := h8.1.lo
 have h11 := qtr ht (qhm ht) (fit_s ht) ts.length V.1 _ h8.1 (by omega) he
 have h12 := (qfl (h5.err0 (h6.err0 (h9.err0 he)))).2
 have h13 := h5.le
 have e3 : Tr.sizeL [] = 0 := rfl
 have e2 : (outP (jc ts (sF ts) ts.length V.1 (inP ts V.2)).2).at_ = (jc ts (sF ts) ts.length V.1 (inP ts V.2)).2.at_ := rfl
 simp only [Tr.size_mk]
 omega
theorem jmu (h : AtOk ts p) (he : (itemF ts p).2.err = 0) : ((itemF ts p).1.size : Int) + p.at_ ≤ (itemF ts p).2.at_ := by
 have hg := jal ht p h he
 unfold itemF at he hg ⊢
 simp only at he hg ⊢
 split
 ·rename_i hw
  rw [if_pos hw] at he
  exact jbg ht h he
 rename_i hw
 rw [if_neg hw] at he hg
 split
 ·rename_i hw
  rw [if_pos hw] at he
  exact jmt ht h he
 rename_i hw
 rw [if_neg hw] at he hg
 split
 ·rename_i hw
  rw [if_pos hw] at he hg
  simp only [Tr.size_mk, Tr.sizeL] at hg ⊢; omega
 rename_i hw
 rw [if_neg hw] at he hg
 split
 ·rename_i hw
  rw [if_pos hw] at he
  have h1 := qf ht h hw
  have h2 := qat ht _ (h1.ok h)
  have h3 := qi ht (h2.ok (h1.ok h)) ql
  have h4 := qip ht (h1.ok h) (h3.err0 he)
  have h5 := h3.le
  have e1 : (adv p).at_ = p.at_ + 1 := rfl
  simp only [Tr.size_mk, Tr.sizeL_one]; omega
 rename_i hw
 rw [if_neg hw] at he hg
 simp only [Tr.size_mk, Tr.sizeL] at hg ⊢; omega
theorem jbi : ∀ (n : Nat) (l : List Tr) (p : Ps), AtOk ts p → (qcu ts n l p).2.err = 0 → (Tr.sizeL (qcu ts n l p).1 : Int) + p.at_ ≤ Tr.sizeL l + (qcu ts n l p).2.at_
 | 0, l, p, _, _ => by rw [qcu]; exact Int.le_refl _
 | n + 1, l, p, h, he => by
  rw [qcu] at he ⊢
  split
  ·rename_i hs
   rw [if_pos hs] at he
   have h1 := qtd ht _ h
   have h2 := qte ht n (l ++ [(itemF ts p).1]) _ (h1.ok h)
   have h3 := jmu ht h (h2.err0 he)
   have h5 := jbi n (l ++ [(itemF ts p).1]) _ (h1.ok h) he
   rw [Tr.sizeL_snoc] at h5
   omega
  ·exact Int.le_refl _
theorem jmv (h : AtOk ts p) (he : (qby ts p).2.err = 0) : ((qby ts p).1.size : Int) ≤ 1 + ts.length := by
 have h1 := jbi ht ts.length [] p h he
 have h2 := ((qte ht ts.length [] p h).ok h).hi
 have h3 := h.lo
 have e3 : Tr.sizeL [] = 0 := rfl
 unfold qby
 simp only [Tr.size_mk]
 omega
end
end Pa
end Go.Proofs.YtdoaagphhjggbaaGreatDoor
