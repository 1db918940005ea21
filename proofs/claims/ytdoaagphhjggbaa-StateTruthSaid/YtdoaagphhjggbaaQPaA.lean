/- The document's parser in plain Lean: what is read has tokens. -/
import Derived.Test.YtdoaagphhjggbaaQPa2
import Derived.Test.YtdoaagphhjggbaaQ2
namespace Go.Proofs.Ytdoaagphhjggbaa
namespace Pa
open Go Go.Sx

section
variable {ts : List Lx.Tok} {p q r : Ps}

theorem Step.err0 (h : Step ts p q) (e : q.err = 0) : p.err = 0 := Classical.byContradiction fun hp => by
  have := h.err hp
  subst this
  exact hp e

theorem bad_err (h : (bad ts p 11).err = 0) : False := by
  unfold bad at h
  split at h
  · simp at h
  · rename_i hp; exact hp h

theorem must_ok {s : List UInt8} (h : (must ts p s).err = 0) : sees ts p s = true ∧ (must ts p s).at_ = p.at_ + 1 := by
  unfold must at h ⊢
  split
  · exact ⟨by assumption, rfl⟩
  · rename_i hn
    rw [if_neg hn] at h
    exact (bad_err h).elim
theorem name_ok (h : (nameP ts p).err = 0) : (nameP ts p).at_ = p.at_ + 1 := by
  unfold nameP at h ⊢
  split
  · rfl
  · rename_i hn
    rw [if_neg hn] at h
    exact (bad_err h).elim
theorem num_ok (h : (numP ts p).err = 0) : (numP ts p).at_ = p.at_ + 1 := by
  unfold numP at h ⊢
  split
  · rfl
  · rename_i hn
    rw [if_neg hn] at h
    exact (bad_err h).elim

abbrev Gains (ts : List Lx.Tok) (f : Ps → Tr × Ps) : Prop := ∀ p, AtOk ts p → (f p).2.err = 0 → p.at_ < (f p).2.at_

variable (ht : ToksOk ts)
include ht

theorem gains_waits {blk : Ps → Tr × Ps} (hb : Runs ts blk) (a i : Int) : Gains ts (waitsF ts blk a i) := fun p h he => by
  unfold waitsF at he ⊢
  split
  · rename_i hs
    rw [if_pos hs] at he
    have h1 := sees_adv ht h hs
    have h2 := step_name ht (h1.ok h)
    have h3 := step_name ht (h2.ok (h1.ok h))
    have h4 := h2.trans (h3.trans (step_must ht (h3.ok (h2.ok (h1.ok h))) sSemi))
    have : p.at_ + 1 ≤ _ := h4.le
    simp only; omega
  · rename_i hs
    rw [if_neg hs] at he
    split
    · rename_i hw
      have h1 := sees_adv ht h hw
      have h2 := runs_e ht _ (h1.ok h)
      have h4 := h2.trans (step_must ht (h2.ok (h1.ok h)) sSemi)
      have : p.at_ + 1 ≤ _ := h4.le
      simp only; omega
    · rename_i hw
      rw [if_neg hw] at he
      have h1 := step_must ht h kChoose
      have h2 := hb _ (h1.ok h)
      have h3 := h2.trans (step_or ht hb ts.length [(blk (must ts p kChoose)).1] _ (h2.ok (h1.ok h)))
      have h4 := (must_ok (h3.err0 he)).2
      have := h3.le
      simp only at this ⊢; omega

theorem gains_stat (n : Nat) : Gains ts (statF ts (n + 1)) := fun p h he => by
  have hb := runs_block ht (runs_stat ht n)
  have key : ∀ x : Tr × Ps, statF ts (n + 1) p = x → Step ts p x.2 → (∀ q, Step ts p q → p.at_ < q.at_ → Step ts q x.2 → p.at_ < x.2.at_) := fun x _ _ q _ h1 h2 => Int.lt_of_lt_of_le h1 h2.le
  unfold statF at he ⊢
  simp only at he ⊢
  split
  · rename_i hw
    rw [if_pos hw] at he
    have h1 := step_took ht h kIdle
    have := gains_waits ht hb _ _ _ (h1.ok h) he
    have := h1.le
    omega
  rename_i hw
  rw [if_neg hw] at he
  split
  · have h1 := sees_adv ht h (by assumption)
    have h2 := step_name ht (h1.ok h)
    have h3 := runs_e ht _ (h2.ok (h1.ok h))
    have h4 : p.at_ + 1 ≤ _ := (h2.trans (h3.trans (step_must ht (h3.ok (h2.ok (h1.ok h))) sSemi))).le
    simp only; omega
  rename_i hw
  rw [if_neg hw] at he
  split
  · have h1 := sees_adv ht h (by assumption)
    have h2 := runs_e ht _ (h1.ok h)
    have h3 := h2.trans (hb _ (h2.ok (h1.ok h)))
    have h4 : p.at_ + 1 ≤ _ := h3.le
    split
    · have h5 := sees_adv ht (h3.ok (h1.ok h)) (by assumption)
      have h6 := (h5.trans (hb _ (h5.ok (h3.ok (h1.ok h))))).le
      simp only at h6 ⊢; omega
    · simp only; omega
  rename_i hw
  rw [if_neg hw] at he
  split
  · have h1 := sees_adv ht h (by assumption)
    have h2 := runs_e ht _ (h1.ok h)
    have h4 : p.at_ + 1 ≤ _ := (h2.trans (hb _ (h2.ok (h1.ok h)))).le
    simp only; omega
  rename_i hw
  rw [if_neg hw] at he
  split
  · have h1 := sees_adv ht h (by assumption)
    have h4 : p.at_ + 1 ≤ _ := (hb _ (h1.ok h)).le
    simp only; omega
  rename_i hw
  rw [if_neg hw] at he
  split
  · have h1 := sees_adv ht h (by assumption)
    have h4 : p.at_ + 1 ≤ _ := (step_must ht (h1.ok h) sSemi).le
    simp only; omega
  rename_i hw
  rw [if_neg hw] at he
  split
  · have h1 := sees_adv ht h (by assumption)
    have h4 : p.at_ + 1 ≤ _ := (step_must ht (h1.ok h) sSemi).le
    simp only; omega
  rename_i hw
  rw [if_neg hw] at he
  have h1 := step_name ht h
  have h2 := step_must ht (h1.ok h) sEq
  have h3 := runs_e ht _ (h2.ok (h1.ok h))
  have h4 := h2.trans (h3.trans (step_must ht (h3.ok (h2.ok (h1.ok h))) sSemi))
  have h5 := name_ok (h4.err0 he)
  have h6 := h4.le
  simp only at h6 ⊢; omega

theorem gains_variable : Gains ts (variableF ts) := fun p h he => by
  have h1 := step_must ht h kVar
  have h0 := runs_variable ht p h
  unfold variableF at he h0 ⊢
  simp only at he h0 ⊢
  have h2 := step_name ht (h1.ok h)
  have h3 := h2
  have h4 := h3.trans (step_must ht (h3.ok (h1.ok h)) kOf)
  have h5 := h4.trans (step_num ht (h4.ok (h1.ok h)))
  have key : ∀ q, Step ts (must ts p kVar) q → (must ts q sSemi).err = 0 → p.at_ < (must ts q sSemi).at_ := fun q hq hqe => by
    have h6 := hq.trans (step_must ht (hq.ok (h1.ok h)) sSemi)
    have h7 := (must_ok (h6.err0 hqe)).2
    have := h6.le
    omega
  refine key _ ?_ he
  split
  · have h6 := h5.trans (sees_adv ht (h5.ok (h1.ok h)) (by assumption))
    split
    · have h7 := h6.trans (sees_adv ht (h6.ok (h1.ok h)) (by assumption))
      exact h7.trans (step_num ht (h7.ok (h1.ok h)))
    · exact h6.trans (step_num ht (h6.ok (h1.ok h)))
  · exact h5

theorem variable_rest (h : AtOk ts p) : Step ts (must ts p kVar) (variableF ts p).2 := by
  have h0 := (step_must ht h kVar).ok h
  unfold variableF
  simp only
  have h3 := step_name ht h0
  have h4 := h3.trans (step_must ht (h3.ok h0) kOf)
  have h5 := h4.trans (step_num ht (h4.ok h0))
  split
  · have h6 := h5.trans (sees_adv ht (h5.ok h0) (by assumption))
    split
    · have h7 := h6.trans (sees_adv ht (h6.ok h0) (by assumption))
      have h8 := h7.trans (step_num ht (h7.ok h0))
      exact h8.trans (step_must ht (h8.ok h0) sSemi)
    · have h8 := h6.trans (step_num ht (h6.ok h0))
      exact h8.trans (step_must ht (h8.ok h0) sSemi)
  · exact h5.trans (step_must ht (h5.ok h0) sSemi)

theorem gains_s (h : 0 < ts.length) : Gains ts (sF ts) := by
  show Gains ts (statF ts ts.length)
  obtain ⟨m, hm⟩ : ∃ m, ts.length = m + 1 := ⟨ts.length - 1, by omega⟩
  rw [hm]
  exact gains_stat ht m

theorem gains_process : Gains ts (processF ts) := fun p h he => by
  have h0 := step_must ht h kProc
  unfold processF at he ⊢
  simp only at he ⊢
  have h1 := h0.ok h
  have h3 := step_name ht h1
  have h4 : Step ts (must ts p kProc) (if sees ts (nameP ts (must ts p kProc)) sStar = true then (numN ts (adv (nameP ts (must ts p kProc))), numP ts (adv (nameP ts (must ts p kProc)))) else (1, nameP ts (must ts p kProc))).2 := by
    split
    · have h5 := h3.trans (sees_adv ht (h3.ok h1) (by assumption))
      exact h5.trans (step_num ht (h5.ok h1))
    · exact h3
  have h5 := h4.trans (step_must ht (h4.ok h1) sLc)
  have h6 := h5.trans (step_vars ht ts.length [] _ (h5.ok h1))
  generalize varsL ts ts.length [] _ = V at he h6 ⊢
  have h7 := h6.trans (step_out (h6.ok h1) (step_stats ht (runs_s ht) ts.length V.1 _ (at_in (h6.ok h1)).1))
  have h8 := (must_ok (h7.err0 he)).2
  have h9 := h7.le
  omega

theorem gains_item : Gains ts (itemF ts) := fun p h he => by
  unfold itemF at he ⊢
  simp only at he ⊢
  split
  · rename_i hw
    rw [if_pos hw] at he
    exact gains_variable ht p h he
  rename_i hw
  rw [if_neg hw] at he
  split
  · rename_i hw
    rw [if_pos hw] at he
    exact gains_process ht p h he
  rename_i hw
  rw [if_neg hw] at he
  split
  · have h1 := sees_adv ht h (by assumption)
    have h2 := step_name ht (h1.ok h)
    have h3 := h2.trans (step_must ht (h2.ok (h1.ok h)) sLb)
    have h4 := h3.trans (step_num ht (h3.ok (h1.ok h)))
    have h5 := h4.trans (step_must ht (h4.ok (h1.ok h)) sRb)
    have h6 := h5.trans (step_must ht (h5.ok (h1.ok h)) kOf)
    have h7 := h6.trans (step_num ht (h6.ok (h1.ok h)))
    have h8 := h7.trans (step_took ht (h7.ok (h1.ok h)) kLossy)
    have h9 := h8.trans (step_took ht (h8.ok (h1.ok h)) kCopying)
    have h10 : p.at_ + 1 ≤ _ := (h9.trans (step_must ht (h9.ok (h1.ok h)) sSemi)).le
    simp only; omega
  rename_i hw
  rw [if_neg hw] at he
  split
  · have h1 := sees_adv ht h (by assumption)
    have h2 := runs_e ht _ (h1.ok h)
    have h4 : p.at_ + 1 ≤ _ := (h2.trans (step_must ht (h2.ok (h1.ok h)) sSemi)).le
    simp only; omega
  rename_i hw
  rw [if_neg hw] at he
  have h1 := step_must ht h kDeadlock
  have h2 := step_must ht (h1.ok h) sSemi
  have h3 := (must_ok (h2.err0 he)).2
  have := h2.le
  simp only at this ⊢; omega

end

end Pa
end Go.Proofs.Ytdoaagphhjggbaa
