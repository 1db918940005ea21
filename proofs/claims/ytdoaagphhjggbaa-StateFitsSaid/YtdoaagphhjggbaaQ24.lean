/- Some texts of the library, one behind the other. -/
import Derived.Test.YtdoaagphhjggbaaQPa0
import Derived.Test.YtdoaagphhjggbaaQ22
import Derived.Test.YtdoaagphhjggbaaQ5
import Derived.Test.YtdoaagphhjggbaaQ2
section
/- The document's parser in plain Lean: it goes on, and keeps how deep it is. -/
namespace Go.Proofs.Ytdoaagphhjggbaa
namespace Pa
open Go Go.Sx

structure ToksOk (ts : List Lx.Tok) : Prop where
  len : ts.length ≤ 5000
  last : ∀ i, i < ts.length → ((ts.getD i Lx.tok0).kind = 3 ↔ i + 1 = ts.length)
  num : ∀ t ∈ ts, t.kind = 1 → t.s.length ≤ 6 ∧ ∀ b ∈ t.s, 48 ≤ b.toNat ∧ b.toNat ≤ 57

structure AtOk (ts : List Lx.Tok) (p : Ps) : Prop where
  lo : 0 ≤ p.at_
  hi : p.at_ < ts.length

structure Step (ts : List Lx.Tok) (p q : Ps) : Prop where
  le : p.at_ ≤ q.at_
  hi : q.at_ < ts.length
  deep : q.deep = p.deep
  err : p.err ≠ 0 → q = p

theorem digits_snoc (s : List UInt8) (b : UInt8) : digits (s ++ [b]) = 10 * digits s + ((b.toNat : Int) - 48) := by
  unfold digits; rw [List.foldl_append]; rfl

theorem digits_bound {s : List UInt8} (h : ∀ b ∈ s, 48 ≤ b.toNat ∧ b.toNat ≤ 57) : ∀ i, i ≤ s.length → 0 ≤ digits (s.take i) ∧ digits (s.take i) < 10 ^ i
  | 0, _ => by simp [digits]
  | i + 1, hi => by
    have h1 := digits_bound h i (by omega)
    rw [List.take_succ_eq_append_getElem (by omega), digits_snoc, Int.pow_succ]
    have h2 := h _ (List.getElem_mem (by omega : i < s.length))
    omega

section
variable {ts : List Lx.Tok} {p q r : Ps}

theorem tk_mem (h : AtOk ts p) : tk ts p ∈ ts := by
  have h0 := h.lo
  have h1 := h.hi
  unfold tk
  rw [List.getD_eq_getElem?_getD, List.getElem?_eq_getElem (by omega)]
  exact List.getElem_mem _

theorem AtOk.refl (h : AtOk ts p) : Step ts p p := ⟨Int.le_refl _, h.hi, rfl, fun _ => rfl⟩
theorem Step.trans (h : Step ts p q) (k : Step ts q r) : Step ts p r :=
  ⟨Int.le_trans h.le k.le, k.hi, k.deep.trans h.deep, fun e => by have := h.err e; subst this; exact k.err e⟩
theorem Step.ok (h : AtOk ts p) (k : Step ts p q) : AtOk ts q := ⟨Int.le_trans h.lo k.le, k.hi⟩

theorem sees_err {s : List UInt8} (h : sees ts p s = true) : p.err = 0 := by
  unfold sees at h
  simp only [Bool.and_eq_true, beq_iff_eq] at h
  exact h.1
theorem sees_kind {s : List UInt8} (h : sees ts p s = true) : (tk ts p).kind = 2 ∨ (tk ts p).kind = 0 := by
  unfold sees tokSees at h
  simp only [Bool.and_eq_true, Bool.or_eq_true, beq_iff_eq] at h
  rcases h.2.2 with h | h
  · exact .inl h
  · exact .inr h.1
theorem name_err (h : isName ts p = true) : p.err = 0 := by
  unfold isName at h; simp only [Bool.and_eq_true, beq_iff_eq] at h; exact h.2
theorem num_err (h : isNum ts p = true) : p.err = 0 := by
  unfold isNum at h; simp only [Bool.and_eq_true, beq_iff_eq] at h; exact h.2

variable (ht : ToksOk ts)
include ht

theorem at_adv (h : AtOk ts p) (hk : (tk ts p).kind ≠ 3) : p.at_ + 1 < ts.length := by
  have h0 := h.lo
  have h1 := h.hi
  have h2 := ht.last p.at_.toNat (by omega)
  have h3 : ¬ (p.at_.toNat + 1 = ts.length) := fun e => hk (h2.2 e)
  omega

theorem step_adv (h : AtOk ts p) (hk : (tk ts p).kind ≠ 3) (he : p.err = 0) : Step ts p (adv p) :=
  ⟨by show p.at_ ≤ p.at_ + 1; omega, at_adv ht h hk, rfl, fun e => absurd he e⟩

theorem sees_adv (h : AtOk ts p) {s : List UInt8} (hs : sees ts p s = true) : Step ts p (adv p) :=
  step_adv ht h (by have := sees_kind hs; omega) (sees_err hs)

omit ht in
theorem step_bad (h : AtOk ts p) (e : Int) : Step ts p (bad ts p e) := by
  unfold bad
  split
  · rename_i he
    exact ⟨Int.le_refl _, h.hi, rfl, fun e => absurd he e⟩
  · exact h.refl

theorem step_took (h : AtOk ts p) (s : List UInt8) : Step ts p (took ts p s) := by
  unfold took
  split
  · exact sees_adv ht h (by assumption)
  · exact h.refl

theorem step_must (h : AtOk ts p) (s : List UInt8) : Step ts p (must ts p s) := by
  unfold must
  split
  · exact sees_adv ht h (by assumption)
  · exact step_bad h 11

theorem step_name (h : AtOk ts p) : Step ts p (nameP ts p) := by
  unfold nameP
  split
  · rename_i hn
    refine step_adv ht h ?_ (name_err hn)
    unfold isName at hn
    simp only [Bool.and_eq_true, beq_iff_eq] at hn
    omega
  · exact step_bad h 11

theorem step_num (h : AtOk ts p) : Step ts p (numP ts p) := by
  unfold numP
  split
  · rename_i hn
    refine step_adv ht h ?_ (num_err hn)
    unfold isNum at hn
    simp only [Bool.and_eq_true, beq_iff_eq] at hn
    omega
  · exact step_bad h 11

abbrev Runs (ts : List Lx.Tok) (f : Ps → Tr × Ps) : Prop := ∀ p, AtOk ts p → Step ts p (f p).2

theorem step_joinL {f : Ps → Tr × Ps} (hf : Runs ts f) {c : Ps → Bool} {sg : Ps → Int} (hc : ∀ p, c p = true → ∃ s, sees ts p s = true) : ∀ (n : Nat) (a : Tr) (p : Ps), AtOk ts p → Step ts p (joinL f c sg n a p).2
  | 0, a, p, h => h.refl
  | n + 1, a, p, h => by
    rw [joinL]
    split
    · rename_i hcp
      obtain ⟨s, hs⟩ := hc p hcp
      have h1 := sees_adv ht h hs
      have h2 := hf _ (h1.ok h)
      exact h1.trans (h2.trans (step_joinL hf hc n _ _ (h2.ok (h1.ok h))))
    · exact h.refl

theorem step_joinO {f : Ps → Tr × Ps} (hf : Runs ts f) (s : List UInt8) (sg : Int) : Runs ts (joinO ts f s sg) := fun p h => by
  have h1 := hf p h
  unfold joinO
  split
  · rename_i hs
    have h2 := sees_adv ht (h1.ok h) hs
    exact h1.trans (h2.trans (hf _ (h2.ok (h1.ok h))))
  · exact h1

omit ht in
theorem product_sees {p : Ps} (h : productC ts p = true) : ∃ s, sees ts p s = true := by
  unfold productC at h
  simp only [Bool.or_eq_true] at h
  rcases h with h | h | h <;> exact ⟨_, h⟩
omit ht in
theorem sum_sees {p : Ps} (h : sumC ts p = true) : ∃ s, sees ts p s = true := by
  unfold sumC at h
  simp only [Bool.or_eq_true] at h
  rcases h with h | h <;> exact ⟨_, h⟩

section
variable {part : Ps → Tr × Ps} (hp : Runs ts part)
include hp
theorem runs_product : Runs ts (productF ts part) := fun p h => (hp p h).trans (step_joinL ht hp (fun _ => product_sees) _ _ _ ((hp p h).ok h))
theorem runs_sum : Runs ts (sumF ts part) := fun p h => (runs_product ht hp p h).trans (step_joinL ht (runs_product ht hp) (fun _ => sum_sees) _ _ _ ((runs_product ht hp p h).ok h))
theorem runs_less : Runs ts (lessF ts part) := step_joinO ht (runs_sum ht hp) _ _
theorem runs_same : Runs ts (sameF ts part) := step_joinO ht (runs_less ht hp) _ _
theorem runs_and : Runs ts (andF ts part) := fun p h => (runs_same ht hp p h).trans (step_joinL ht (runs_same ht hp) (fun _ h => ⟨_, h⟩) _ _ _ ((runs_same ht hp p h).ok h))
theorem runs_expr : Runs ts (exprF ts part) := fun p h => (runs_and ht hp p h).trans (step_joinL ht (runs_and ht hp) (fun _ h => ⟨_, h⟩) _ _ _ ((runs_and ht hp p h).ok h))
end

omit ht in
theorem at_in (h : AtOk ts p) : AtOk ts (inP ts p) ∧ (inP ts p).at_ = p.at_ ∧ (inP ts p).deep = p.deep + 1 ∧ (p.err ≠ 0 → (inP ts p).err = p.err ∧ (inP ts p).fat = p.fat) := by
  unfold inP
  split
  · unfold bad
    split
    · rename_i he
      exact ⟨⟨h.lo, h.hi⟩, rfl, rfl, fun e => absurd he e⟩
    · exact ⟨⟨h.lo, h.hi⟩, rfl, rfl, fun _ => ⟨rfl, rfl⟩⟩
  · exact ⟨⟨h.lo, h.hi⟩, rfl, rfl, fun _ => ⟨rfl, rfl⟩⟩

omit ht in
theorem step_out (h : AtOk ts p) (hs : Step ts (inP ts p) q) : Step ts p (outP q) := by
  obtain ⟨h1, h2, h3, h4⟩ := at_in h
  refine ⟨by have := hs.le; show p.at_ ≤ q.at_; omega, hs.hi, by have := hs.deep; show q.deep - 1 = p.deep; omega, fun e => ?_⟩
  have h5 := h4 e
  have h6 := hs.err (by rw [h5.1]; exact e)
  subst h6
  show ({ (inP ts p) with deep := (inP ts p).deep - 1 } : Ps) = p
  rw [h3]
  cases p
  simp only [Ps.mk.injEq]
  exact ⟨h2, by simp, h5.1, h5.2⟩

omit ht in
theorem step_ifOk {f : Ps → Tr × Ps} (hf : Runs ts f) (h : AtOk ts p) : Step ts p (ifOk f p).2 := by
  unfold ifOk
  split
  · exact hf p h
  · exact h.refl

theorem runs_part : ∀ n, Runs ts (partF ts n)
  | 0 => fun p h => h.refl
  | n + 1 => fun p h => by
    unfold partF
    simp only
    split
    · exact step_num ht h
    split
    · rename_i hs
      have h1 := sees_adv ht h hs
      exact h1.trans (step_name ht (h1.ok h))
    split
    · rename_i hs
      have h1 : Step ts p (adv p) := by rcases hs with hs | hs <;> exact sees_adv ht h hs
      exact h1.trans (step_out (h1.ok h) (step_ifOk (runs_part n) (at_in (h1.ok h)).1))
    split
    · rename_i hs
      have h1 := sees_adv ht h hs
      have h2 := (at_in (h1.ok h)).1
      have h3 : Step ts (adv p) (outP (if (inP ts (adv p)).err = 0 then (exprF ts (partF ts n) (inP ts (adv p))).2 else inP ts (adv p))) := by
        refine step_out (h1.ok h) ?_
        split
        · exact runs_expr ht (runs_part n) _ h2
        · exact h2.refl
      exact h1.trans (h3.trans (step_must ht (h3.ok (h1.ok h)) _))
    · exact step_name ht h

theorem runs_e : Runs ts (eF ts) := runs_expr ht (runs_part ht _)

section
variable {stat : Ps → Tr × Ps} (hs : Runs ts stat)
include hs
theorem step_stats : ∀ (n : Nat) (l : List Tr) (p : Ps), AtOk ts p → Step ts p (statsL ts stat n l p).2
  | 0, l, p, h => h.refl
  | n + 1, l, p, h => by
    rw [statsL]
    split
    · split
      · exact sees_adv ht h (by assumption)
      · exact (hs p h).trans (step_stats n _ _ ((hs p h).ok h))
    · exact h.refl

theorem runs_block : Runs ts (blockF ts stat) := fun p h => by
  have h1 := step_must ht h sLc
  exact h1.trans (step_out (h1.ok h) (step_stats ht hs _ _ _ (at_in (h1.ok h)).1))
end

theorem step_or {blk : Ps → Tr × Ps} (hb : Runs ts blk) : ∀ (n : Nat) (l : List Tr) (p : Ps), AtOk ts p → Step ts p (orL ts blk n l p).2
  | 0, l, p, h => h.refl
  | n + 1, l, p, h => by
    rw [orL]
    split
    · have h1 := sees_adv ht h (by assumption)
      have h2 := hb _ (h1.ok h)
      exact h1.trans (h2.trans (step_or hb n _ _ (h2.ok (h1.ok h))))
    · exact h.refl

theorem runs_waits {blk : Ps → Tr × Ps} (hb : Runs ts blk) (a i : Int) : Runs ts (waitsF ts blk a i) := fun p h => by
  unfold waitsF
  split
  · have h1 := sees_adv ht h (by assumption)
    have h2 := step_name ht (h1.ok h)
    have h3 := step_name ht (h2.ok (h1.ok h))
    exact h1.trans (h2.trans (h3.trans (step_must ht (h3.ok (h2.ok (h1.ok h))) _)))
  split
  · have h1 := sees_adv ht h (by assumption)
    have h2 := runs_e ht _ (h1.ok h)
    exact h1.trans (h2.trans (step_must ht (h2.ok (h1.ok h)) _))
  · have h1 := step_must ht h kChoose
    have h2 := hb _ (h1.ok h)
    exact h1.trans (h2.trans (step_or ht hb _ _ _ (h2.ok (h1.ok h))))

theorem runs_stat : ∀ n, Runs ts (statF ts n)
  | 0 => fun p h => h.refl
  | n + 1 => fun p h => by
    have hb := runs_block ht (runs_stat n)
    unfold statF
    simp only
    split
    · have h1 := step_took ht h kIdle
      exact h1.trans (runs_waits ht hb _ _ _ (h1.ok h))
    split
    · have h1 := sees_adv ht h (by assumption)
      have h2 := step_name ht (h1.ok h)
      have h3 := runs_e ht _ (h2.ok (h1.ok h))
      exact h1.trans (h2.trans (h3.trans (step_must ht (h3.ok (h2.ok (h1.ok h))) _)))
    split
    · have h1 := sees_adv ht h (by assumption)
      have h2 := runs_e ht _ (h1.ok h)
      have h3 := hb _ (h2.ok (h1.ok h))
      have h4 := h1.trans (h2.trans h3)
      split
      · have h5 := sees_adv ht (h4.ok h) (by assumption)
        exact h4.trans (h5.trans (hb _ (h5.ok (h4.ok h))))
      · exact h4
    split
    · have h1 := sees_adv ht h (by assumption)
      have h2 := runs_e ht _ (h1.ok h)
      exact h1.trans (h2.trans (hb _ (h2.ok (h1.ok h))))
    split
    · have h1 := sees_adv ht h (by assumption)
      exact h1.trans (hb _ (h1.ok h))
    split
    · have h1 := sees_adv ht h (by assumption)
      exact h1.trans (step_must ht (h1.ok h) _)
    split
    · have h1 := sees_adv ht h (by assumption)
      exact h1.trans (step_must ht (h1.ok h) _)
    · have h1 := step_name ht h
      have h2 := step_must ht (h1.ok h) sEq
      have h3 := runs_e ht _ (h2.ok (h1.ok h))
      exact h1.trans (h2.trans (h3.trans (step_must ht (h3.ok (h2.ok (h1.ok h))) _)))

theorem runs_s : Runs ts (sF ts) := runs_stat ht _

theorem runs_variable : Runs ts (variableF ts) := fun p h => by
  unfold variableF
  simp only
  have h1 := step_must ht h kVar
  have h2 := step_name ht (h1.ok h)
  have h3 := h1.trans h2
  have h4 := h3.trans (step_must ht (h3.ok h) kOf)
  have h5 := h4.trans (step_num ht (h4.ok h))
  split
  · have h6 := h5.trans (sees_adv ht (h5.ok h) (by assumption))
    split
    · have h7 := h6.trans (sees_adv ht (h6.ok h) (by assumption))
      have h8 := h7.trans (step_num ht (h7.ok h))
      exact h8.trans (step_must ht (h8.ok h) _)
    · have h8 := h6.trans (step_num ht (h6.ok h))
      exact h8.trans (step_must ht (h8.ok h) _)
  · exact h5.trans (step_must ht (h5.ok h) _)

theorem step_vars : ∀ (n : Nat) (l : List Tr) (p : Ps), AtOk ts p → Step ts p (varsL ts n l p).2
  | 0, l, p, h => h.refl
  | n + 1, l, p, h => by
    rw [varsL]
    split
    · have h2 := runs_variable ht _ h
      exact h2.trans (step_vars n _ _ (h2.ok h))
    · exact h.refl

theorem runs_process : Runs ts (processF ts) := fun p h => by
  unfold processF
  simp only
  have h1 := step_must ht h kProc
  have h3 := h1.trans (step_name ht (h1.ok h))
  have h4 : Step ts p (if sees ts (nameP ts (must ts p kProc)) sStar = true then (numN ts (adv (nameP ts (must ts p kProc))), numP ts (adv (nameP ts (must ts p kProc)))) else (1, nameP ts (must ts p kProc))).2 := by
    split
    · have h5 := h3.trans (sees_adv ht (h3.ok h) (by assumption))
      exact h5.trans (step_num ht (h5.ok h))
    · exact h3
  have h5 := h4.trans (step_must ht (h4.ok h) sLc)
  have h6 := h5.trans (step_vars ht ts.length [] _ (h5.ok h))
  exact h6.trans (step_out (h6.ok h) (step_stats ht (runs_s ht) _ _ _ (at_in (h6.ok h)).1))

theorem runs_item : Runs ts (itemF ts) := fun p h => by
  unfold itemF
  simp only
  split
  · exact runs_variable ht _ h
  split
  · exact runs_process ht _ h
  split
  · have h1 := sees_adv ht h (by assumption)
    have h2 := h1.trans (step_name ht (h1.ok h))
    have h3 := h2.trans (step_must ht (h2.ok h) sLb)
    have h4 := h3.trans (step_num ht (h3.ok h))
    have h5 := h4.trans (step_must ht (h4.ok h) sRb)
    have h6 := h5.trans (step_must ht (h5.ok h) kOf)
    have h7 := h6.trans (step_num ht (h6.ok h))
    have h8 := h7.trans (step_took ht (h7.ok h) kLossy)
    have h9 := h8.trans (step_took ht (h8.ok h) kCopying)
    exact h9.trans (step_must ht (h9.ok h) _)
  split
  · have h1 := sees_adv ht h (by assumption)
    have h2 := h1.trans (runs_e ht _ (h1.ok h))
    exact h2.trans (step_must ht (h2.ok h) _)
  · have h1 := step_must ht h kDeadlock
    exact h1.trans (step_must ht (h1.ok h) _)

theorem step_items : ∀ (n : Nat) (l : List Tr) (p : Ps), AtOk ts p → Step ts p (itemsL ts n l p).2
  | 0, l, p, h => h.refl
  | n + 1, l, p, h => by
    rw [itemsL]
    split
    · have h2 := runs_item ht _ h
      exact h2.trans (step_items n _ _ (h2.ok h))
    · exact h.refl

end

end Pa
end Go.Proofs.Ytdoaagphhjggbaa
end
section
/- Contracts of the reference lexer's small functions, out of those of names. -/
namespace Go.Proofs.Ytdoaagphhjggbaa
open Go.Sx Go.RowKit
set_option maxRecDepth 100000

theorem qdigit_con (c : Int) : Con Try.prog 68 [.int .u8 c] (.bool (decide (48 ≤ c) && decide (c ≤ 57))) := digit_con c

theorem qletter_con (c : Int) : Con Try.prog 66 [.int .u8 c] (.bool (decide (65 ≤ c) && decide (c ≤ 90) || decide (97 ≤ c) && decide (c ≤ 122))) := letter_con c

theorem qhas_con (l : List UInt8) (c : Int) (hl : l.length ≤ 1000) : Con Try.prog 64 [.str l, .int .u8 c] (.bool (Lx.hasB l c)) := by
  refine con_of_exec (T := tab Try.prog) (C := {}) 100 (fun _ => rfl) Try.func64 rfl (by kernel_rfl) (by kernel_rfl) (fun c0 rdb => ?_)
  repeat' ((conv => whnf); first | refine Ob.auto ?_ | (refine Br.intro (fun hb => ?_) (fun hb => ?_) <;> (try simp at hb) <;> (try (exfalso; omega))) | refine Ob.intro ?_ ?_)
  (conv => whnf); refine loop_rule (fun _ => rfl) 100 1 (fun k : Nat => ⟨[(0, .str l), (1, .int .u8 c), (5, .int .i64 k)], [], 0⟩)
    (fun k => k ≤ l.length ∧ Lx.hasB (l.take k) c = false) (fun k => l.length - k) 0 ⟨by omega, by simp [Lx.hasB]⟩ subA (fun _ => rfl) (by kernel_rfl) ?_
  rintro k ⟨hk, hf⟩
  repeat' ((conv => whnf); first | refine Ob.auto ?_ | (refine Br.intro (fun hb => ?_) (fun hb => ?_) <;> (try simp at hb) <;> (try (exfalso; omega))) | refine Ob.intro ?_ ?_)
  · have h1 := Lx.hasB_step (by assumption) c
    refine Le.of_eq (congrArg AV.bool ?_)
    rw [hb, beq_self_eq_true, Bool.or_true] at h1
    exact (Lx.hasB_take h1).symm
  · (conv => whnf); refine Exists.intro (k + 1) ⟨⟨by omega, ?_⟩, subA, by omega⟩
    rw [Lx.hasB_step (by assumption) c, hf]
    simpa using hb
  · rw [List.take_of_length_le (by omega)] at hf
    exact Le.of_eq (by rw [hf])

theorem qword_con (c : Int) : Con Try.prog 67 [.int .u8 c] (.bool (Lx.wordC c)) := word_con c

theorem qtwo_con (s : List UInt8) (i : Nat) (hi : i ≤ s.length) (hs : s.length ≤ 1000000) : Con Try.prog 65 [.str s, .int .i64 i] (.str (Lx.twoL (s.drop i))) := by
  refine con_of_exec (T := tab Try.prog) (C := {}) 100 (fun _ => rfl) Try.func65 rfl (by kernel_rfl) (by kernel_rfl) (fun c0 rdb => ?_)
  repeat' ((conv => whnf); first | refine Ob.auto ?_ | (refine Br.intro (fun hb => ?_) (fun hb => ?_) <;> (try simp at hb) <;> (try (exfalso; omega))) | refine Ob.intro ?_ ?_)
  · refine Le.of_eq (congrArg AV.str ?_)
    rw [Lx.twoL, List.length_drop, if_pos (by omega), show ((i : Int) + 2).toNat = i + 2 by omega, Int.toNat_natCast, List.drop_take, Nat.add_sub_cancel_left]
  · refine Le.of_eq (congrArg AV.str ?_)
    rw [Lx.twoL, List.length_drop, if_neg (by omega)]

end Go.Proofs.Ytdoaagphhjggbaa
end
