/- The document's parser in plain Lean: what is read has tokens. -/
import Derived.Test.YtdoaagphhjggbaaGreatDoorQ24
import Derived.Test.YtdoaagphhjggbaaGreatDoorQ2
namespace Go.Proofs.YtdoaagphhjggbaaGreatDoor
namespace Pa
open Go Go.Sx
section
variable {ts : List Lx.Tok} {p q r : Ps}
theorem Step.err0 (h : Step ts p q) (e : q.err = 0) : p.err = 0 := Classical.byContradiction fun hp => by
 have := h.err hp
 subst this
 exact hp e
theorem qtg (h : (bad ts p 11).err = 0) : False := by
 unfold bad at h
 split at h
 ·simp at h
 ·rename_i hp; exact hp h
theorem qfl {s : List UInt8} (h : (must ts p s).err = 0) : sees ts p s = true ∧ (must ts p s).at_ = p.at_ + 1 := by
 unfold must at h ⊢
 split
 ·exact ⟨by assumption, rfl⟩
 ·rename_i hn
  rw [if_neg hn] at h
  exact (qtg h).elim
theorem qpk (h : (qd ts p).err = 0) : (qd ts p).at_ = p.at_ + 1 := by
 unfold qd at h ⊢
 split
 ·rfl
 ·rename_i hn
  rw [if_neg hn] at h
  exact (qtg h).elim
theorem jlq (h : (numP ts p).err = 0) : (numP ts p).at_ = p.at_ + 1 := by
 unfold numP at h ⊢
 split
 ·rfl
 ·rename_i hn
  rw [if_neg hn] at h
  exact (qtg h).elim
abbrev qfm (ts : List Lx.Tok) (f : Ps → Tr × Ps) : Prop := ∀ p, AtOk ts p → (f p).2.err = 0 → p.at_ < (f p).2.at_
variable (ht : ToksOk ts)
include ht
theorem jlr {blk : Ps → Tr × Ps} (hb : Runs ts blk) (a i : Int) : qfm ts (qcs ts blk a i) := fun p h he => by
 unfold qcs at he ⊢
 split
 ·rename_i hs
  rw [if_pos hs] at he
  have h1 := qf ht h hs
  have h2 := qad ht (h1.ok h)
  have h3 := qad ht (h2.ok (h1.ok h))
  have h4 := h2.trans (h3.trans (qi ht (h3.ok (h2.ok (h1.ok h))) ql))
  have : p.at_ + 1 ≤ _ := h4.le
  simp only; omega
 ·rename_i hs
  rw [if_neg hs] at he
  split
  ·rename_i hw
   have h1 := qf ht h hw
   have h2 := qat ht _ (h1.ok h)
   have h4 := h2.trans (qi ht (h2.ok (h1.ok h)) ql)
   have : p.at_ + 1 ≤ _ := h4.le
   simp only; omega
  ·rename_i hw
   rw [if_neg hw] at he
   have h1 := qi ht h qx
   have h2 := hb _ (h1.ok h)
   have h3 := h2.trans (qmk ht hb ts.length [(blk (must ts p qx)).1] _ (h2.ok (h1.ok h)))
   have h4 := (qfl (h3.err0 he)).2
   have := h3.le
   simp only at this ⊢; omega
theorem jah (n : Nat) : qfm ts (qc ts (n + 1)) := fun p h he => by
 have hb := qph ht (qil ht n)
 have key : ∀ x : Tr × Ps, qc ts (n + 1) p = x → Step ts p x.2 → (∀ q, Step ts p q → p.at_ < q.at_ → Step ts q x.2 → p.at_ < x.2.at_) := fun x _ _ q _ h1 h2 => Int.lt_of_lt_of_le h1 h2.le
 unfold qc at he ⊢
 simp only at he ⊢
 split
 ·rename_i hw
  rw [if_pos hw] at he
  have h1 := qgl ht h qdb
  have := jlr ht hb _ _ _ (h1.ok h) he
  have := h1.le
  omega
 rename_i hw
 rw [if_neg hw] at he
 split
 ·have h1 := qf ht h (by assumption)
  have h2 := qad ht (h1.ok h)
  have h3 := qat ht _ (h2.ok (h1.ok h))
  have h4 : p.at_ + 1 ≤ _ := (h2.trans (h3.trans (qi ht (h3.ok (h2.ok (h1.ok h))) ql))).le
  simp only; omega
 rename_i hw
 rw [if_neg hw] at he
 split
 ·have h1 := qf ht h (by assumption)
  have h2 := qat ht _ (h1.ok h)
  have h3 := h2.trans (hb _ (h2.ok (h1.ok h)))
  have h4 : p.at_ + 1 ≤ _ := h3.le
  split
  ·have h5 := qf ht (h3.ok (h1.ok h)) (by assumption)
   have h6 := (h5.trans (hb _ (h5.ok (h3.ok (h1.ok h))))).le
   simp only at h6 ⊢; omega
  ·simp only; omega
 rename_i hw
 rw [if_neg hw] at he
 split
 ·have h1 := qf ht h (by assumption)
  have h2 := qat ht _ (h1.ok h)
  have h4 : p.at_ + 1 ≤ _ := (h2.trans (hb _ (h2.ok (h1.ok h)))).le
  simp only; omega
 rename_i hw
 rw [if_neg hw] at he
 split
 ·have h1 := qf ht h (by assumption)
  have h4 : p.at_ + 1 ≤ _ := (hb _ (h1.ok h)).le
  simp only; omega
 rename_i hw
 rw [if_neg hw] at he
 split
 ·have h1 := qf ht h (by assumption)
  have h4 : p.at_ + 1 ≤ _ := (qi ht (h1.ok h) ql).le
  simp only; omega
 rename_i hw
 rw [if_neg hw] at he
 split
 ·have h1 := qf ht h (by assumption)
  have h4 : p.at_ + 1 ≤ _ := (qi ht (h1.ok h) ql).le
  simp only; omega
 rename_i hw
 rw [if_neg hw] at he
 have h1 := qad ht h
 have h2 := qi ht (h1.ok h) sEq
 have h3 := qat ht _ (h2.ok (h1.ok h))
 have h4 := h2.trans (h3.trans (qi ht (h3.ok (h2.ok (h1.ok h))) ql))
 have h5 := qpk (h4.err0 he)
 have h6 := h4.le
 simp only at h6 ⊢; omega
theorem jai : qfm ts (jk ts) := fun p h he => by
 have h1 := qi ht h kVar
 have h0 := qka ht p h
 unfold jk at he h0 ⊢
 simp only at he h0 ⊢
 have h2 := qad ht (h1.ok h)
 have h3 := h2
 have h4 := h3.trans (qi ht (h3.ok (h1.ok h)) kOf)
 have h5 := h4.trans (qaw ht (h4.ok (h1.ok h)))
 have key : ∀ q, Step ts (must ts p kVar) q → (must ts q ql).err = 0 → p.at_ < (must ts q ql).at_ := fun q hq hqe => by
  have h6 := hq.trans (qi ht (hq.ok (h1.ok h)) ql)
  have h7 := (qfl (h6.err0 hqe)).2
  have := h6.le
  omega
 refine key _ ?_ he
 split
 ·have h6 := h5.trans (qf ht (h5.ok (h1.ok h)) (by assumption))
  split
  ·have h7 := h6.trans (qf ht (h6.ok (h1.ok h)) (by assumption))
   exact h7.trans (qaw ht (h7.ok (h1.ok h)))
  ·exact h6.trans (qaw ht (h6.ok (h1.ok h)))
 ·exact h5
theorem jaj (h : AtOk ts p) : Step ts (must ts p kVar) (jk ts p).2 := by
 have h0 := (qi ht h kVar).ok h
 unfold jk
 simp only
 have h3 := qad ht h0
 have h4 := h3.trans (qi ht (h3.ok h0) kOf)
 have h5 := h4.trans (qaw ht (h4.ok h0))
 split
 ·have h6 := h5.trans (qf ht (h5.ok h0) (by assumption))
  split
  ·have h7 := h6.trans (qf ht (h6.ok h0) (by assumption))
   have h8 := h7.trans (qaw ht (h7.ok h0))
   exact h8.trans (qi ht (h8.ok h0) ql)
  ·have h8 := h6.trans (qaw ht (h6.ok h0))
   exact h8.trans (qi ht (h8.ok h0) ql)
 ·exact h5.trans (qi ht (h5.ok h0) ql)
theorem jak (h : 0 < ts.length) : qfm ts (sF ts) := by
 show qfm ts (qc ts ts.length)
 obtain ⟨m, hm⟩ : ∃ m, ts.length = m + 1 := ⟨ts.length - 1, by omega⟩
 rw [hm]
 exact jah ht m
theorem jls : qfm ts (qct ts) := fun p h he => by
 have h0 := qi ht h qr
 unfold qct at he ⊢
 simp only at he ⊢
 have h1 := h0.ok h
 have h3 := qad ht h1
 have h4 : Step ts (must ts p qr) (if sees ts (qd ts (must ts p qr)) qem = true then (numN ts (adv (qd ts (must ts p qr))), numP ts (adv (qd ts (must ts p qr)))) else (1, qd ts (must ts p qr))).2 := by
  split
  ·have h5 := h3.trans (qf ht (h3.ok h1) (by assumption))
   exact h5.trans (qaw ht (h5.ok h1))
  ·exact h3
 have h5 := h4.trans (qi ht (h4.ok h1) sLc)
 have h6 := h5.trans (qml ht ts.length [] _ (h5.ok h1))
 generalize qbc ts ts.length [] _ = V at he h6 ⊢
 have h7 := h6.trans (qhl (h6.ok h1) (qfk ht (qhm ht) ts.length V.1 _ (qbz (h6.ok h1)).1))
 have h8 := (qfl (h7.err0 he)).2
 have h9 := h7.le
 omega
theorem jal : qfm ts (itemF ts) := fun p h he => by
 unfold itemF at he ⊢
 simp only at he ⊢
 split
 ·rename_i hw
  rw [if_pos hw] at he
  exact jai ht p h he
 rename_i hw
 rw [if_neg hw] at he
 split
 ·rename_i hw
  rw [if_pos hw] at he
  exact jls ht p h he
 rename_i hw
 rw [if_neg hw] at he
 split
 ·have h1 := qf ht h (by assumption)
  have h2 := qad ht (h1.ok h)
  have h3 := h2.trans (qi ht (h2.ok (h1.ok h)) sLb)
  have h4 := h3.trans (qaw ht (h3.ok (h1.ok h)))
  have h5 := h4.trans (qi ht (h4.ok (h1.ok h)) sRb)
  have h6 := h5.trans (qi ht (h5.ok (h1.ok h)) kOf)
  have h7 := h6.trans (qaw ht (h6.ok (h1.ok h)))
  have h8 := h7.trans (qgl ht (h7.ok (h1.ok h)) qgj)
  have h9 := h8.trans (qgl ht (h8.ok (h1.ok h)) qhj)
  have h10 : p.at_ + 1 ≤ _ := (h9.trans (qi ht (h9.ok (h1.ok h)) ql)).le
  simp only; omega
 rename_i hw
 rw [if_neg hw] at he
 split
 ·have h1 := qf ht h (by assumption)
  have h2 := qat ht _ (h1.ok h)
  have h4 : p.at_ + 1 ≤ _ := (h2.trans (qi ht (h2.ok (h1.ok h)) ql)).le
  simp only; omega
 rename_i hw
 rw [if_neg hw] at he
 have h1 := qi ht h qjx
 have h2 := qi ht (h1.ok h) ql
 have h3 := (qfl (h2.err0 he)).2
 have := h2.le
 simp only at this ⊢; omega
end
end Pa
end Go.Proofs.YtdoaagphhjggbaaGreatDoor
