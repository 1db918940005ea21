/- The document's parser in plain Lean: a tree has no more nodes than tokens are read. -/
import Derived.Test.YtdoaagphhjggbaaQ11
import Derived.Test.YtdoaagphhjggbaaQ2
namespace Go.Proofs.Ytdoaagphhjggbaa
namespace Pa
open Go Go.Sx
theorem Tr.size_mk (k : Int) (w : List (List UInt8)) (ns : List Int) (a : Int) (l : List Tr) : (Tr.mk k w ns a l).size = 1 + Tr.sizeL l := by rw [Tr.size]
theorem Tr.sizeL_snoc : ∀ (l : List Tr) (t : Tr), Tr.sizeL (l ++ [t]) = Tr.sizeL l + t.size
 | [], t => by simp [Tr.sizeL]
 | x :: r, t => by rw [List.cons_append, Tr.sizeL, Tr.sizeL_snoc r t, Tr.sizeL]; omega
theorem Tr.sizeL_one (t : Tr) : Tr.sizeL [t] = t.size := by simp [Tr.sizeL]
theorem Tr.sizeL_two (t u : Tr) : Tr.sizeL [t, u] = t.size + u.size := by simp [Tr.sizeL]
theorem Tr.sizeL_three (t u v : Tr) : Tr.sizeL [t, u, v] = t.size + (u.size + v.size) := by simp [Tr.sizeL]
theorem qzr (sg : Int) (a b : Tr) : (binT sg a b).size = 1 + (a.size + b.size) := by unfold binT; rw [Tr.size_mk, Tr.sizeL_two]
abbrev Fit (ts : List Lx.Tok) (n : Nat) (f : Ps → Tr × Ps) : Prop := ∀ p, AtOk ts p → (ts.length : Int) ≤ p.at_ + n → (f p).2.err = 0 → ((f p).1.size : Int) + p.at_ ≤ (f p).2.at_
section
variable {ts : List Lx.Tok} {p q r : Ps} {m : Nat}
variable (ht : ToksOk ts)
include ht
theorem qzs {f : Ps → Tr × Ps} (hf : Runs ts f) (hF : Fit ts m f) {c : Ps → Bool} {sg : Ps → Int} (hc : ∀ p, c p = true → ∃ s, sees ts p s = true) :
  ∀ (n : Nat) (a : Tr) (p : Ps), AtOk ts p → (ts.length : Int) ≤ p.at_ + m → (qaj f c sg n a p).2.err = 0 → ((qaj f c sg n a p).1.size : Int) + p.at_ ≤ a.size + (qaj f c sg n a p).2.at_
 | 0, a, p, _, _, _ => by rw [qaj]; exact Int.le_refl _
 | n + 1, a, p, h, hl, he => by
  rw [qaj] at he ⊢
  split
  ·rename_i hcp
   rw [if_pos hcp] at he
   obtain ⟨s, hs⟩ := hc p hcp
   have h1 := qg ht h hs
   have h2 := hf _ (h1.ok h)
   have h3 := qit ht hf hc (sg := sg) n (binT (sg p) a (f (adv p)).1) _ (h2.ok (h1.ok h))
   have e1 : (adv p).at_ = p.at_ + 1 := rfl
   have h4 := hF _ (h1.ok h) (by omega) (h3.err0 he)
   have h6 := h2.le
   have h5 := qzs hf hF hc (sg := sg) n (binT (sg p) a (f (adv p)).1) _ (h2.ok (h1.ok h)) (by omega) he
   rw [qzr] at h5
   omega
  ·exact Int.le_refl _
theorem qpg {f : Ps → Tr × Ps} (hf : Runs ts f) (hF : Fit ts m f) {c : Ps → Bool} {sg : Ps → Int} (hc : ∀ p, c p = true → ∃ s, sees ts p s = true) (n : Nat) :
  Fit ts m (fun p => qaj f c sg n (f p).1 (f p).2) := fun p h hl he => by
 have h1 := hf p h
 have h2 := qit ht hf hc (sg := sg) n (f p).1 _ (h1.ok h)
 have h3 := hF p h hl (h2.err0 he)
 have h4 := h1.le
 have h5 := qzs ht hf hF hc (sg := sg) n (f p).1 _ (h1.ok h) (by omega) he
 simp only at h5 ⊢
 omega
theorem qzt {f : Ps → Tr × Ps} (hf : Runs ts f) (hF : Fit ts m f) (s : List UInt8) (sg : Int) : Fit ts m (qkk ts f s sg) := fun p h hl he => by
 have h1 := hf p h
 unfold qkk at he ⊢
 split
 ·rename_i hs
  rw [if_pos hs] at he
  have h2 := qg ht (h1.ok h) hs
  have h3 := hf _ (h2.ok (h1.ok h))
  have e1 : (adv (f p).2).at_ = (f p).2.at_ + 1 := rfl
  have h4 := hF p h hl (h2.err0 (h3.err0 he))
  have h5 := h1.le
  have h6 := hF _ (h2.ok (h1.ok h)) (by omega) he
  simp only
  rw [qzr]
  omega
 ·rename_i hs
  rw [if_neg hs] at he
  exact hF p h hl he
section
variable {part : Ps → Tr × Ps} (hp : Runs ts part) (hP : Fit ts m part)
include hp hP
theorem jlg : Fit ts m (qbr ts part) := qpg ht hp hP (fun _ => qyq) _
theorem jlh : Fit ts m (sumF ts part) := qpg ht (qmo ht hp) (jlg ht hp hP) (fun _ => qyr) _
theorem jli : Fit ts m (qbp ts part) := qzt ht (qso ht hp) (jlh ht hp hP) _ _
theorem jlj : Fit ts m (qcu ts part) := qzt ht (qsp ht hp) (jli ht hp hP) _ _
theorem jlk : Fit ts m (andF ts part) := qpg ht (qmp ht hp) (jlj ht hp hP) (fun _ h => ⟨_, h⟩) _
theorem qzu : Fit ts m (qdk ts part) := qpg ht (qmq ht hp) (jlk ht hp hP) (fun _ h => ⟨_, h⟩) _
end
theorem qte : ∀ n, Fit ts n (qad ts n)
 | 0 => fun p h hl _ => by have := h.hi; omega
 | n + 1 => fun p h hl he => by
  unfold qad at he ⊢
  simp only at he ⊢
  split
  ·rename_i hs
   rw [if_pos hs] at he
   have := jkk he
   simp only [Tr.size_mk, Tr.sizeL] at this ⊢
   omega
  rename_i hs
  rw [if_neg hs] at he
  split
  ·rename_i hs
   rw [if_pos hs] at he
   have := qpe he
   have e1 : (adv p).at_ = p.at_ + 1 := rfl
   simp only [Tr.size_mk, Tr.sizeL] at this ⊢
   omega
  rename_i hs
  rw [if_neg hs] at he
  split
  ·rename_i hs
   rw [if_pos hs] at he
   have h1 : Step ts p (adv p) := by rcases hs with hs | hs <;> exact qg ht h hs
   have h2 := qcc (h1.ok h)
   have e1 : (adv p).at_ = p.at_ + 1 := rfl
   have h3 := qes ht n _ h2.1
   simp only [Tr.size_mk]
   have he' : (ifOk (qad ts n) (inP ts (adv p))).2.err = 0 := he
   unfold ifOk at he' ⊢
   split
   ·rename_i hi
    rw [if_pos hi] at he'
    have h4 := qte n _ h2.1 (by omega) he'
    simp only [Tr.sizeL_one]
    have e2 : (outP (qad ts n (inP ts (adv p))).2).at_ = (qad ts n (inP ts (adv p))).2.at_ := rfl
    omega
   ·simp only [Tr.sizeL]
    have e2 : (outP (inP ts (adv p))).at_ = (inP ts (adv p)).at_ := rfl
    omega
  rename_i hs
  rw [if_neg hs] at he
  split
  ·rename_i hs
   rw [if_pos hs] at he
   have h1 := qg ht h hs
   have h2 := qcc (h1.ok h)
   have e1 : (adv p).at_ = p.at_ + 1 := rfl
   have h3 : Step ts (adv p) (outP (if (inP ts (adv p)).err = 0 then (qdk ts (qad ts n) (inP ts (adv p))).2 else inP ts (adv p))) := by
    refine qhp (h1.ok h) ?_
    split
    ·exact qpa ht (qes ht n) _ h2.1
    ·exact h2.1.refl
   have h4 := qi ht (h3.ok (h1.ok h)) sRp
   have h5 := h4.err0 he
   have h6 := h4.le
   split
   ·rename_i hi
    rw [if_pos hi] at h5 h6
    have h7 := qzu ht (qes ht n) (qte n) _ h2.1 (by omega) h5
    have e2 : (outP (qdk ts (qad ts n) (inP ts (adv p))).2).at_ = (qdk ts (qad ts n) (inP ts (adv p))).2.at_ := rfl
    simp only at h6 ⊢
    omega
   ·rename_i hi
    rw [if_neg hi] at h5
    exact absurd h5 hi
  ·rename_i hs
   rw [if_neg hs] at he
   have := qpe he
   simp only [Tr.size_mk, Tr.sizeL] at this ⊢
   omega
theorem qiy (h : AtOk ts p) (he : (eF ts p).2.err = 0) : ((eF ts p).1.size : Int) + p.at_ ≤ (eF ts p).2.at_ :=
 qzu ht (qes ht _) (qte ht _) p h (by have := h.lo; omega) he
theorem qtf {stat : Ps → Tr × Ps} (hs : Runs ts stat) (hS : Fit ts m stat) : ∀ (n : Nat) (l : List Tr) (p : Ps), AtOk ts p → (ts.length : Int) ≤ p.at_ + m → (je ts stat n l p).2.err = 0 → (Tr.sizeL (je ts stat n l p).1 : Int) + p.at_ ≤ Tr.sizeL l + (je ts stat n l p).2.at_
 | 0, l, p, _, _, _ => by rw [je]; exact Int.le_refl _
 | n + 1, l, p, h, hl, he => by
  rw [je] at he ⊢
  by_cases h0 : p.err = 0
  ·rw [if_pos h0] at he ⊢
   by_cases hb : sees ts p sRc = true
   ·rw [if_pos hb]
    have e1 : (adv p).at_ = p.at_ + 1 := rfl
    simp only; omega
   ·rw [if_neg hb] at he ⊢
    have h1 := hs p h
    have h2 := qfr ht hs n (l ++ [(stat p).1]) _ (h1.ok h)
    have h3 := hS p h hl (h2.err0 he)
    have h4 := h1.le
    have h5 := qtf hs hS n (l ++ [(stat p).1]) _ (h1.ok h) (by omega) he
    rw [Tr.sizeL_snoc] at h5
    omega
  ·rw [if_neg h0]
   exact Int.le_refl _
theorem jll {stat : Ps → Tr × Ps} (hs : Runs ts stat) (hS : Fit ts m stat) (h : AtOk ts p) (hl : (ts.length : Int) ≤ p.at_ + m + 1) (he : (qn ts stat p).2.err = 0) : ((qn ts stat p).1.size : Int) + p.at_ ≤ (qn ts stat p).2.at_ := by
 have h1 := qi ht h sLc
 have h0 := qcc (h1.ok h)
 have h2 := qhp (h1.ok h) (qfr ht hs ts.length [] _ h0.1)
 have h3 := (qfs (h2.err0 he)).2
 have h4 := qtf ht hs hS ts.length [] _ h0.1 (by omega) he
 unfold qn
 simp only [Tr.size_mk]
 have e2 : (outP (je ts stat ts.length [] (inP ts (must ts p sLc))).2).at_ = (je ts stat ts.length [] (inP ts (must ts p sLc))).2.at_ := rfl
 have e3 : Tr.sizeL [] = 0 := rfl
 omega
theorem qzv {blk : Ps → Tr × Ps} (hb : Runs ts blk) (hB : Fit ts m blk) : ∀ (n : Nat) (l : List Tr) (p : Ps), AtOk ts p → (ts.length : Int) ≤ p.at_ + m → (orL ts blk n l p).2.err = 0 → (Tr.sizeL (orL ts blk n l p).1 : Int) + p.at_ ≤ Tr.sizeL l + (orL ts blk n l p).2.at_
 | 0, l, p, _, _, _ => by rw [orL]; exact Int.le_refl _
 | n + 1, l, p, h, hl, he => by
  rw [orL] at he ⊢
  split
  ·rename_i hs
   rw [if_pos hs] at he
   have h1 := qg ht h hs
   have h2 := hb _ (h1.ok h)
   have h3 := qmr ht hb n (l ++ [(blk (adv p)).1]) _ (h2.ok (h1.ok h))
   have e1 : (adv p).at_ = p.at_ + 1 := rfl
   have h4 := hB _ (h1.ok h) (by omega) (h3.err0 he)
   have h6 := h2.le
   have h5 := qzv hb hB n (l ++ [(blk (adv p)).1]) _ (h2.ok (h1.ok h)) (by omega) he
   rw [Tr.sizeL_snoc] at h5
   omega
  ·exact Int.le_refl _
theorem jlm {blk : Ps → Tr × Ps} (hb : Runs ts blk) (hB : Fit ts m blk) (a i : Int) : Fit ts m (qcv ts blk a i) := fun p h hl he => by
 unfold qcv at he ⊢
 split
 ·rename_i hs
  rw [if_pos hs] at he
  have h1 := qg ht h hs
  have h2 := qag ht (h1.ok h)
  have h3 := qag ht (h2.ok (h1.ok h))
  have h4 := h2.trans (h3.trans (qi ht (h3.ok (h2.ok (h1.ok h))) qm))
  have : p.at_ + 1 ≤ _ := h4.le
  simp only [Tr.size_mk, Tr.sizeL]; omega
 ·rename_i hs
  rw [if_neg hs] at he
  split
  ·rename_i hw
   rw [if_pos hw] at he
   have h1 := qg ht h hw
   have h2 := qax ht _ (h1.ok h)
   have h4 := qi ht (h2.ok (h1.ok h)) qm
   have h5 := qiy ht (h1.ok h) (h4.err0 he)
   have h6 := h4.le
   have e1 : (adv p).at_ = p.at_ + 1 := rfl
   simp only [Tr.size_mk, Tr.sizeL_one]; omega
  ·rename_i hw
   rw [if_neg hw] at he
   have h1 := qi ht h qz
   have h2 := hb _ (h1.ok h)
   have h3 := qmr ht hb ts.length [(blk (must ts p qz)).1] _ (h2.ok (h1.ok h))
   have h4 := (qfs (h2.err0 (h3.err0 he))).2
   have h5 := hB _ (h1.ok h) (by omega) (h3.err0 he)
   have h7 := h2.le
   have h6 := qzv ht hb hB ts.length [(blk (must ts p qz)).1] _ (h2.ok (h1.ok h)) (by omega) he
   rw [Tr.sizeL_one] at h6
   simp only [Tr.size_mk] at h6 ⊢; omega
theorem qzw : ∀ n, Fit ts n (qc ts n)
 | 0 => fun p h hl _ => by have := h.hi; omega
 | n + 1 => fun p h hl he => by
  have hb := qpb ht (qiu ht n)
  have hB : ∀ q, AtOk ts q → (ts.length : Int) ≤ q.at_ + n + 1 → (qn ts (qc ts n) q).2.err = 0 → ((qn ts (qc ts n) q).1.size : Int) + q.at_ ≤ (qn ts (qc ts n) q).2.at_ := fun q hq hlq heq => jll ht (qiu ht n) (qzw n) hq hlq heq
  unfold qc at he ⊢
  simp only at he ⊢
  split
  ·rename_i hw
   rw [if_pos hw] at he
   have h1 := qgm ht h qdi
   have h2 := h1.le
   have := jlm ht hb (m := n + 1) (fun q hq hlq heq => hB q hq (by omega) heq) _ _ _ (h1.ok h) (by omega) he
   omega
  rename_i hw
  rw [if_neg hw] at he
  split
  ·rename_i hw
   rw [if_pos hw] at he
   have h1 := qg ht h hw
   have h2 := qag ht (h1.ok h)
   have h3 := qax ht _ (h2.ok (h1.ok h))
   have h4 := qi ht (h3.ok (h2.ok (h1.ok h))) qm
   have h5 := qiy ht (h2.ok (h1.ok h)) (h4.err0 he)
   have h6 := h4.le
   have h7 : p.at_ + 1 ≤ _ := h2.le
   simp only [Tr.size_mk, Tr.sizeL_one]; omega
  rename_i hw
  rw [if_neg hw] at he
  split
  ·rename_i hw
   rw [if_pos hw] at he
   have h1 := qg ht h hw
   have h2 := qax ht _ (h1.ok h)
   have h3 := hb _ (h2.ok (h1.ok h))
   have e1 : (adv p).at_ = p.at_ + 1 := rfl
   have hl2 := h2.le
   have hl3 := h3.le
   split
   ·rename_i hx
    rw [if_pos hx] at he
    have h5 := qg ht (h3.ok (h2.ok (h1.ok h))) hx
    have h6 := hb _ (h5.ok (h3.ok (h2.ok (h1.ok h))))
    have h7 := h5.err0 (h6.err0 he)
    have h8 := qiy ht (h1.ok h) (h3.err0 h7)
    have h9 := hB _ (h2.ok (h1.ok h)) (by omega) h7
    have e2 : (adv (qn ts (qc ts n) (eF ts (adv p)).2).2).at_ = (qn ts (qc ts n) (eF ts (adv p)).2).2.at_ + 1 := rfl
    have h10 := hB _ (h5.ok (h3.ok (h2.ok (h1.ok h)))) (by omega) he
    simp only [Tr.size_mk, Tr.sizeL_three]; omega
   ·rename_i hx
    rw [if_neg hx] at he
    have h8 := qiy ht (h1.ok h) (h3.err0 he)
    have h9 := hB _ (h2.ok (h1.ok h)) (by omega) he
    simp only [Tr.size_mk, Tr.sizeL_two]; omega
  rename_i hw
  rw [if_neg hw] at he
  split
  ·rename_i hw
   rw [if_pos hw] at he
   have h1 := qg ht h hw
   have h2 := qax ht _ (h1.ok h)
   have h3 := hb _ (h2.ok (h1.ok h))
   have e1 : (adv p).at_ = p.at_ + 1 := rfl
   have hl2 := h2.le
   have h8 := qiy ht (h1.ok h) (h3.err0 he)
   have h9 := hB _ (h2.ok (h1.ok h)) (by omega) he
   simp only [Tr.size_mk, Tr.sizeL_two]; omega
  rename_i hw
  rw [if_neg hw] at he
  split
  ·rename_i hw
   rw [if_pos hw] at he
   have h1 := qg ht h hw
   have e1 : (adv p).at_ = p.at_ + 1 := rfl
   have h9 := hB _ (h1.ok h) (by omega) he
   simp only [Tr.size_mk, Tr.sizeL_one]; omega
  rename_i hw
  rw [if_neg hw] at he
  split
  ·have h1 := qg ht h (by assumption)
   have h4 : p.at_ + 1 ≤ _ := (qi ht (h1.ok h) qm).le
   simp only [Tr.size_mk, Tr.sizeL]; omega
  rename_i hw
  rw [if_neg hw] at he
  split
  ·have h1 := qg ht h (by assumption)
   have h4 : p.at_ + 1 ≤ _ := (qi ht (h1.ok h) qm).le
   simp only [Tr.size_mk, Tr.sizeL]; omega
  rename_i hw
  rw [if_neg hw] at he
  have h1 := qag ht h
  have h2 := qi ht (h1.ok h) sEq
  have h3 := qax ht _ (h2.ok (h1.ok h))
  have h4 := qi ht (h3.ok (h2.ok (h1.ok h))) qm
  have h5 := qpe (h2.err0 (h3.err0 (h4.err0 he)))
  have h6 := h4.le
  have h7 := h2.le
  have h8 := qiy ht (h2.ok (h1.ok h)) (h4.err0 he)
  simp only [Tr.size_mk, Tr.sizeL_one]; omega
theorem fit_s : Fit ts ts.length (sF ts) := qzw ht _
theorem qzx (h : AtOk ts p) (he : (jl ts p).2.err = 0) : ((jl ts p).1.size : Int) + p.at_ ≤ (jl ts p).2.at_ := by
 have h1 := qyz ht p h he
 have h2 : (jl ts p).1.size = 1 := by unfold jl; simp only [Tr.size_mk, Tr.sizeL]
 omega
theorem qzy : ∀ (n : Nat) (l : List Tr) (p : Ps), AtOk ts p → (qbi ts n l p).2.err = 0 → (Tr.sizeL (qbi ts n l p).1 : Int) + p.at_ ≤ Tr.sizeL l + (qbi ts n l p).2.at_
 | 0, l, p, _, _ => by rw [qbi]; exact Int.le_refl _
 | n + 1, l, p, h, he => by
  rw [qbi] at he ⊢
  split
  ·rename_i hs
   rw [if_pos hs] at he
   have h1 := qkm ht _ h
   have h2 := qms ht n (l ++ [(jl ts p).1]) _ (h1.ok h)
   have h3 := qzx ht h (h2.err0 he)
   have h5 := qzy n (l ++ [(jl ts p).1]) _ (h1.ok h) he
   rw [Tr.sizeL_snoc] at h5
   omega
  ·exact Int.le_refl _
theorem jln (h : AtOk ts p) (he : (qcw ts p).2.err = 0) : ((qcw ts p).1.size : Int) + p.at_ ≤ (qcw ts p).2.at_ := by
 have h0 := qi ht h qv
 unfold qcw at he ⊢
 simp only at he ⊢
 have h1 := h0.ok h
 have h3 := qag ht h1
 have h4 : Step ts (must ts p qv) (if sees ts (qe ts (must ts p qv)) qer = true then (numN ts (adv (qe ts (must ts p qv))), numP ts (adv (qe ts (must ts p qv)))) else (1, qe ts (must ts p qv))).2 := by
  split
  ·have h5 := h3.trans (qg ht (h3.ok h1) (by assumption))
   exact h5.trans (qba ht (h5.ok h1))
  ·exact h3
 have h5 := h4.trans (qi ht (h4.ok h1) sLc)
 generalize (must ts (if sees ts (qe ts (must ts p qv)) qer = true then (numN ts (adv (qe ts (must ts p qv))), numP ts (adv (qe ts (must ts p qv)))) else (1, qe ts (must ts p qv))).2 sLc) = R at he h5 ⊢
 have h6 := qms ht ts.length [] R (h5.ok h1)
 have h7 := fun he => qzy ht ts.length [] R (h5.ok h1) he
 generalize qbi ts ts.length [] R = V at he h6 h7 ⊢
 have h8 := qcc (h6.ok (h5.ok h1))
 have h9 := qhp (h6.ok (h5.ok h1)) (qfr ht (qhq ht) ts.length V.1 _ h8.1)
 have h10 := h7 (h9.err0 he)
 have hlo := h8.1.lo
 have h11 := qtf ht (qhq ht) (fit_s ht) ts.length V.1 _ h8.1 (by omega) he
 have h12 := (qfs (h5.err0 (h6.err0 (h9.err0 he)))).2
 have h13 := h5.le
 have e3 : Tr.sizeL [] = 0 := rfl
 have e2 : (outP (je ts (sF ts) ts.length V.1 (inP ts V.2)).2).at_ = (je ts (sF ts) ts.length V.1 (inP ts V.2)).2.at_ := rfl
 simp only [Tr.size_mk]
 omega
theorem jlo (h : AtOk ts p) (he : (itemF ts p).2.err = 0) : ((itemF ts p).1.size : Int) + p.at_ ≤ (itemF ts p).2.at_ := by
 have hg := qzc ht p h he
 unfold itemF at he hg ⊢
 simp only at he hg ⊢
 split
 ·rename_i hw
  rw [if_pos hw] at he
  exact qzx ht h he
 rename_i hw
 rw [if_neg hw] at he hg
 split
 ·rename_i hw
  rw [if_pos hw] at he
  exact jln ht h he
 rename_i hw
 rw [if_neg hw] at he hg
 split
 ·rename_i hw
  rw [if_pos hw] at he hg
  simp only [Tr.size_mk, Tr.sizeL] at hg ⊢; omega
 rename_i hw
 rw [if_neg hw] at he hg
 split
 ·rename_i hw
  rw [if_pos hw] at he
  have h1 := qg ht h hw
  have h2 := qax ht _ (h1.ok h)
  have h3 := qi ht (h2.ok (h1.ok h)) qm
  have h4 := qiy ht (h1.ok h) (h3.err0 he)
  have h5 := h3.le
  have e1 : (adv p).at_ = p.at_ + 1 := rfl
  simp only [Tr.size_mk, Tr.sizeL_one]; omega
 rename_i hw
 rw [if_neg hw] at he hg
 simp only [Tr.size_mk, Tr.sizeL] at hg ⊢; omega
theorem qzz : ∀ (n : Nat) (l : List Tr) (p : Ps), AtOk ts p → (qcx ts n l p).2.err = 0 → (Tr.sizeL (qcx ts n l p).1 : Int) + p.at_ ≤ Tr.sizeL l + (qcx ts n l p).2.at_
 | 0, l, p, _, _ => by rw [qcx]; exact Int.le_refl _
 | n + 1, l, p, h, he => by
  rw [qcx] at he ⊢
  split
  ·rename_i hs
   rw [if_pos hs] at he
   have h1 := qsq ht _ h
   have h2 := qsr ht n (l ++ [(itemF ts p).1]) _ (h1.ok h)
   have h3 := jlo ht h (h2.err0 he)
   have h5 := qzz n (l ++ [(itemF ts p).1]) _ (h1.ok h) he
   rw [Tr.sizeL_snoc] at h5
   omega
  ·exact Int.le_refl _
theorem jlp (h : AtOk ts p) (he : (qcb ts p).2.err = 0) : ((qcb ts p).1.size : Int) ≤ 1 + ts.length := by
 have h1 := qzz ht ts.length [] p h he
 have h2 := ((qsr ht ts.length [] p h).ok h).hi
 have h3 := h.lo
 have e3 : Tr.sizeL [] = 0 := rfl
 unfold qcb
 simp only [Tr.size_mk]
 omega
end
end Pa
end Go.Proofs.Ytdoaagphhjggbaa
