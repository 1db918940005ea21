/- Some texts of the library, one behind the other. -/
import Derived.Test.YtdoaagphhjggbaaGreatDoorQPa0
import Derived.Test.YtdoaagphhjggbaaGreatDoorQ22
import Derived.Test.YtdoaagphhjggbaaGreatDoorQ6
import Derived.Test.YtdoaagphhjggbaaGreatDoorQ2
section
namespace Go.Proofs.YtdoaagphhjggbaaGreatDoor
namespace Pa
open Go Go.Sx
structure ToksOk (ts : List Lx.Tok) : Prop where
 len : ts.length ≤ 5000
 last : ∀ i, i < ts.length → ((ts.getD i Lx.tok0).kind = 3 ↔ i + 1 = ts.length)
 num : ∀ t ∈ ts, t.kind = 1 → t.s.length ≤ 6 ∧ ∀ b ∈ t.s, 48 ≤ b.toNat ∧ b.toNat ≤ 57
structure AtOk (ts : List Lx.Tok) (p : Ps) : Prop where
 lo : 0 ≤ p.at_
 hi : p.at_ < ts.length
structure Step (ts : List Lx.Tok) (p q : Ps) : Prop where
 le : p.at_ ≤ q.at_
 hi : q.at_ < ts.length
 deep : q.deep = p.deep
 err : p.err ≠ 0 → q = p
theorem qzz (s : List UInt8) (b : UInt8) : qfi (s ++ [b]) = 10 * qfi s + ((b.toNat : Int) - 48) := by
 unfold qfi; rw [List.foldl_append]; rfl
theorem qsy {s : List UInt8} (h : ∀ b ∈ s, 48 ≤ b.toNat ∧ b.toNat ≤ 57) : ∀ i, i ≤ s.length → 0 ≤ qfi (s.take i) ∧ qfi (s.take i) < 10 ^ i
 | 0, _ => by simp [qfi]
 | i + 1, hi => by
  have h1 := qsy h i (by omega)
  rw [List.take_succ_eq_append_getElem (by omega), qzz, Int.pow_succ]
  have h2 := h _ (List.getElem_mem (by omega : i < s.length))
  omega
section
variable {ts : List Lx.Tok} {p q r : Ps}
theorem jaa (h : AtOk ts p) : tk ts p ∈ ts := by
 have h0 := h.lo
 have h1 := h.hi
 unfold tk
 rw [List.getD_eq_getElem?_getD, List.getElem?_eq_getElem (by omega)]
 exact List.getElem_mem _
theorem AtOk.refl (h : AtOk ts p) : Step ts p p := ⟨Int.le_refl _, h.hi, rfl, fun _ => rfl⟩
theorem Step.trans (h : Step ts p q) (k : Step ts q r) : Step ts p r :=
 ⟨Int.le_trans h.le k.le, k.hi, k.deep.trans h.deep, fun e => by have := h.err e; subst this; exact k.err e⟩
theorem Step.ok (h : AtOk ts p) (k : Step ts p q) : AtOk ts q := ⟨Int.le_trans h.lo k.le, k.hi⟩
theorem jky {s : List UInt8} (h : sees ts p s = true) : p.err = 0 := by
 unfold sees at h
 simp only [Bool.and_eq_true, beq_iff_eq] at h
 exact h.1
theorem jkz {s : List UInt8} (h : sees ts p s = true) : (tk ts p).kind = 2 ∨ (tk ts p).kind = 0 := by
 unfold sees qsx at h
 simp only [Bool.and_eq_true, Bool.or_eq_true, beq_iff_eq] at h
 rcases h.2.2 with h | h
 ·exact .inl h
 ·exact .inr h.1
theorem jla (h : qgk ts p = true) : p.err = 0 := by
 unfold qgk at h; simp only [Bool.and_eq_true, beq_iff_eq] at h; exact h.2
theorem jlb (h : qfh ts p = true) : p.err = 0 := by
 unfold qfh at h; simp only [Bool.and_eq_true, beq_iff_eq] at h; exact h.2
variable (ht : ToksOk ts)
include ht
theorem jlc (h : AtOk ts p) (hk : (tk ts p).kind ≠ 3) : p.at_ + 1 < ts.length := by
 have h0 := h.lo
 have h1 := h.hi
 have h2 := ht.last p.at_.toNat (by omega)
 have h3 : ¬ (p.at_.toNat + 1 = ts.length) := fun e => hk (h2.2 e)
 omega
theorem qsz (h : AtOk ts p) (hk : (tk ts p).kind ≠ 3) (he : p.err = 0) : Step ts p (adv p) :=
 ⟨by show p.at_ ≤ p.at_ + 1; omega, jlc ht h hk, rfl, fun e => absurd he e⟩
theorem qf (h : AtOk ts p) {s : List UInt8} (hs : sees ts p s = true) : Step ts p (adv p) :=
 qsz ht h (by have := jkz hs; omega) (jky hs)
omit ht in
theorem qta (h : AtOk ts p) (e : Int) : Step ts p (bad ts p e) := by
 unfold bad
 split
 ·rename_i he
  exact ⟨Int.le_refl _, h.hi, rfl, fun e => absurd he e⟩
 ·exact h.refl
theorem qgl (h : AtOk ts p) (s : List UInt8) : Step ts p (took ts p s) := by
 unfold took
 split
 ·exact qf ht h (by assumption)
 ·exact h.refl
theorem qi (h : AtOk ts p) (s : List UInt8) : Step ts p (must ts p s) := by
 unfold must
 split
 ·exact qf ht h (by assumption)
 ·exact qta h 11
theorem qad (h : AtOk ts p) : Step ts p (qd ts p) := by
 unfold qd
 split
 ·rename_i hn
  refine qsz ht h ?_ (jla hn)
  unfold qgk at hn
  simp only [Bool.and_eq_true, beq_iff_eq] at hn
  omega
 ·exact qta h 11
theorem qaw (h : AtOk ts p) : Step ts p (numP ts p) := by
 unfold numP
 split
 ·rename_i hn
  refine qsz ht h ?_ (jlb hn)
  unfold qfh at hn
  simp only [Bool.and_eq_true, beq_iff_eq] at hn
  omega
 ·exact qta h 11
abbrev Runs (ts : List Lx.Tok) (f : Ps → Tr × Ps) : Prop := ∀ p, AtOk ts p → Step ts p (f p).2
theorem qik {f : Ps → Tr × Ps} (hf : Runs ts f) {c : Ps → Bool} {sg : Ps → Int} (hc : ∀ p, c p = true → ∃ s, sees ts p s = true) : ∀ (n : Nat) (a : Tr) (p : Ps), AtOk ts p → Step ts p (qaf f c sg n a p).2
 | 0, a, p, h => h.refl
 | n + 1, a, p, h => by
  rw [qaf]
  split
  ·rename_i hcp
   obtain ⟨s, hs⟩ := hc p hcp
   have h1 := qf ht h hs
   have h2 := hf _ (h1.ok h)
   exact h1.trans (h2.trans (qik hf hc n _ _ (h2.ok (h1.ok h))))
  ·exact h.refl
theorem jab {f : Ps → Tr × Ps} (hf : Runs ts f) (s : List UInt8) (sg : Int) : Runs ts (qjy ts f s sg) := fun p h => by
 have h1 := hf p h
 unfold qjy
 split
 ·rename_i hs
  have h2 := qf ht (h1.ok h) hs
  exact h1.trans (h2.trans (hf _ (h2.ok (h1.ok h))))
 ·exact h1
omit ht in
theorem jac {p : Ps} (h : qdc ts p = true) : ∃ s, sees ts p s = true := by
 unfold qdc at h
 simp only [Bool.or_eq_true] at h
 rcases h with h | h | h <;> exact ⟨_, h⟩
omit ht in
theorem jad {p : Ps} (h : sumC ts p = true) : ∃ s, sees ts p s = true := by
 unfold sumC at h
 simp only [Bool.or_eq_true] at h
 rcases h with h | h <;> exact ⟨_, h⟩
section
variable {part : Ps → Tr × Ps} (hp : Runs ts part)
include hp
theorem qmh : Runs ts (qbr ts part) := fun p h => (hp p h).trans (qik ht hp (fun _ => jac) _ _ _ ((hp p h).ok h))
theorem qtb : Runs ts (sumF ts part) := fun p h => (qmh ht hp p h).trans (qik ht (qmh ht hp) (fun _ => jad) _ _ _ ((qmh ht hp p h).ok h))
theorem qtc : Runs ts (qbl ts part) := jab ht (qtb ht hp) _ _
theorem qmi : Runs ts (qcr ts part) := jab ht (qtc ht hp) _ _
theorem qmj : Runs ts (andF ts part) := fun p h => (qmi ht hp p h).trans (qik ht (qmi ht hp) (fun _ h => ⟨_, h⟩) _ _ _ ((qmi ht hp p h).ok h))
theorem qpg : Runs ts (qdd ts part) := fun p h => (qmj ht hp p h).trans (qik ht (qmj ht hp) (fun _ h => ⟨_, h⟩) _ _ _ ((qmj ht hp p h).ok h))
end
omit ht in
theorem qbz (h : AtOk ts p) : AtOk ts (inP ts p) ∧ (inP ts p).at_ = p.at_ ∧ (inP ts p).deep = p.deep + 1 ∧ (p.err ≠ 0 → (inP ts p).err = p.err ∧ (inP ts p).fat = p.fat) := by
 unfold inP
 split
 ·unfold bad
  split
  ·rename_i he
   exact ⟨⟨h.lo, h.hi⟩, rfl, rfl, fun e => absurd he e⟩
  ·exact ⟨⟨h.lo, h.hi⟩, rfl, rfl, fun _ => ⟨rfl, rfl⟩⟩
 ·exact ⟨⟨h.lo, h.hi⟩, rfl, rfl, fun _ => ⟨rfl, rfl⟩⟩
omit ht in
theorem qhl (h : AtOk ts p) (hs : Step ts (inP ts p) q) : Step ts p (outP q) := by
 obtain ⟨h1, h2, h3, h4⟩ := qbz h
 refine ⟨by have := hs.le; show p.at_ ≤ q.at_; omega, hs.hi, by have := hs.deep; show q.deep - 1 = p.deep; omega, fun e => ?_⟩
 have h5 := h4 e
 have h6 := hs.err (by rw [h5.1]; exact e)
 subst h6
 show ({ (inP ts p) with deep := (inP ts p).deep - 1 } : Ps) = p
 rw [h3]
 cases p
 simp only [Ps.mk.injEq]
 exact ⟨h2, by simp, h5.1, h5.2⟩
omit ht in
theorem jld {f : Ps → Tr × Ps} (hf : Runs ts f) (h : AtOk ts p) : Step ts p (ifOk f p).2 := by
 unfold ifOk
 split
 ·exact hf p h
 ·exact h.refl
theorem qen : ∀ n, Runs ts (qaa ts n)
 | 0 => fun p h => h.refl
 | n + 1 => fun p h => by
  unfold qaa
  simp only
  split
  ·exact qaw ht h
  split
  ·rename_i hs
   have h1 := qf ht h hs
   exact h1.trans (qad ht (h1.ok h))
  split
  ·rename_i hs
   have h1 : Step ts p (adv p) := by rcases hs with hs | hs <;> exact qf ht h hs
   exact h1.trans (qhl (h1.ok h) (jld (qen n) (qbz (h1.ok h)).1))
  split
  ·rename_i hs
   have h1 := qf ht h hs
   have h2 := (qbz (h1.ok h)).1
   have h3 : Step ts (adv p) (outP (if (inP ts (adv p)).err = 0 then (qdd ts (qaa ts n) (inP ts (adv p))).2 else inP ts (adv p))) := by
    refine qhl (h1.ok h) ?_
    split
    ·exact qpg ht (qen n) _ h2
    ·exact h2.refl
   exact h1.trans (h3.trans (qi ht (h3.ok (h1.ok h)) _))
  ·exact qad ht h
theorem qat : Runs ts (eF ts) := qpg ht (qen ht _)
section
variable {stat : Ps → Tr × Ps} (hs : Runs ts stat)
include hs
theorem qfk : ∀ (n : Nat) (l : List Tr) (p : Ps), AtOk ts p → Step ts p (jc ts stat n l p).2
 | 0, l, p, h => h.refl
 | n + 1, l, p, h => by
  rw [jc]
  split
  ·split
   ·exact qf ht h (by assumption)
   ·exact (hs p h).trans (qfk n _ _ ((hs p h).ok h))
  ·exact h.refl
theorem qph : Runs ts (qm ts stat) := fun p h => by
 have h1 := qi ht h sLc
 exact h1.trans (qhl (h1.ok h) (qfk ht hs _ _ _ (qbz (h1.ok h)).1))
end
theorem qmk {blk : Ps → Tr × Ps} (hb : Runs ts blk) : ∀ (n : Nat) (l : List Tr) (p : Ps), AtOk ts p → Step ts p (orL ts blk n l p).2
 | 0, l, p, h => h.refl
 | n + 1, l, p, h => by
  rw [orL]
  split
  ·have h1 := qf ht h (by assumption)
   have h2 := hb _ (h1.ok h)
   exact h1.trans (h2.trans (qmk hb n _ _ (h2.ok (h1.ok h))))
  ·exact h.refl
theorem jle {blk : Ps → Tr × Ps} (hb : Runs ts blk) (a i : Int) : Runs ts (qcs ts blk a i) := fun p h => by
 unfold qcs
 split
 ·have h1 := qf ht h (by assumption)
  have h2 := qad ht (h1.ok h)
  have h3 := qad ht (h2.ok (h1.ok h))
  exact h1.trans (h2.trans (h3.trans (qi ht (h3.ok (h2.ok (h1.ok h))) _)))
 split
 ·have h1 := qf ht h (by assumption)
  have h2 := qat ht _ (h1.ok h)
  exact h1.trans (h2.trans (qi ht (h2.ok (h1.ok h)) _))
 ·have h1 := qi ht h qx
  have h2 := hb _ (h1.ok h)
  exact h1.trans (h2.trans (qmk ht hb _ _ _ (h2.ok (h1.ok h))))
theorem qil : ∀ n, Runs ts (qc ts n)
 | 0 => fun p h => h.refl
 | n + 1 => fun p h => by
  have hb := qph ht (qil n)
  unfold qc
  simp only
  split
  ·have h1 := qgl ht h qdb
   exact h1.trans (jle ht hb _ _ _ (h1.ok h))
  split
  ·have h1 := qf ht h (by assumption)
   have h2 := qad ht (h1.ok h)
   have h3 := qat ht _ (h2.ok (h1.ok h))
   exact h1.trans (h2.trans (h3.trans (qi ht (h3.ok (h2.ok (h1.ok h))) _)))
  split
  ·have h1 := qf ht h (by assumption)
   have h2 := qat ht _ (h1.ok h)
   have h3 := hb _ (h2.ok (h1.ok h))
   have h4 := h1.trans (h2.trans h3)
   split
   ·have h5 := qf ht (h4.ok h) (by assumption)
    exact h4.trans (h5.trans (hb _ (h5.ok (h4.ok h))))
   ·exact h4
  split
  ·have h1 := qf ht h (by assumption)
   have h2 := qat ht _ (h1.ok h)
   exact h1.trans (h2.trans (hb _ (h2.ok (h1.ok h))))
  split
  ·have h1 := qf ht h (by assumption)
   exact h1.trans (hb _ (h1.ok h))
  split
  ·have h1 := qf ht h (by assumption)
   exact h1.trans (qi ht (h1.ok h) _)
  split
  ·have h1 := qf ht h (by assumption)
   exact h1.trans (qi ht (h1.ok h) _)
  ·have h1 := qad ht h
   have h2 := qi ht (h1.ok h) sEq
   have h3 := qat ht _ (h2.ok (h1.ok h))
   exact h1.trans (h2.trans (h3.trans (qi ht (h3.ok (h2.ok (h1.ok h))) _)))
theorem qhm : Runs ts (sF ts) := qil ht _
theorem qka : Runs ts (jk ts) := fun p h => by
 unfold jk
 simp only
 have h1 := qi ht h kVar
 have h2 := qad ht (h1.ok h)
 have h3 := h1.trans h2
 have h4 := h3.trans (qi ht (h3.ok h) kOf)
 have h5 := h4.trans (qaw ht (h4.ok h))
 split
 ·have h6 := h5.trans (qf ht (h5.ok h) (by assumption))
  split
  ·have h7 := h6.trans (qf ht (h6.ok h) (by assumption))
   have h8 := h7.trans (qaw ht (h7.ok h))
   exact h8.trans (qi ht (h8.ok h) _)
  ·have h8 := h6.trans (qaw ht (h6.ok h))
   exact h8.trans (qi ht (h8.ok h) _)
 ·exact h5.trans (qi ht (h5.ok h) _)
theorem qml : ∀ (n : Nat) (l : List Tr) (p : Ps), AtOk ts p → Step ts p (qbc ts n l p).2
 | 0, l, p, h => h.refl
 | n + 1, l, p, h => by
  rw [qbc]
  split
  ·have h2 := qka ht _ h
   exact h2.trans (qml n _ _ (h2.ok h))
  ·exact h.refl
theorem jlf : Runs ts (qct ts) := fun p h => by
 unfold qct
 simp only
 have h1 := qi ht h qr
 have h3 := h1.trans (qad ht (h1.ok h))
 have h4 : Step ts p (if sees ts (qd ts (must ts p qr)) qem = true then (numN ts (adv (qd ts (must ts p qr))), numP ts (adv (qd ts (must ts p qr)))) else (1, qd ts (must ts p qr))).2 := by
  split
  ·have h5 := h3.trans (qf ht (h3.ok h) (by assumption))
   exact h5.trans (qaw ht (h5.ok h))
  ·exact h3
 have h5 := h4.trans (qi ht (h4.ok h) sLc)
 have h6 := h5.trans (qml ht ts.length [] _ (h5.ok h))
 exact h6.trans (qhl (h6.ok h) (qfk ht (qhm ht) _ _ _ (qbz (h6.ok h)).1))
theorem qtd : Runs ts (itemF ts) := fun p h => by
 unfold itemF
 simp only
 split
 ·exact qka ht _ h
 split
 ·exact jlf ht _ h
 split
 ·have h1 := qf ht h (by assumption)
  have h2 := h1.trans (qad ht (h1.ok h))
  have h3 := h2.trans (qi ht (h2.ok h) sLb)
  have h4 := h3.trans (qaw ht (h3.ok h))
  have h5 := h4.trans (qi ht (h4.ok h) sRb)
  have h6 := h5.trans (qi ht (h5.ok h) kOf)
  have h7 := h6.trans (qaw ht (h6.ok h))
  have h8 := h7.trans (qgl ht (h7.ok h) qgj)
  have h9 := h8.trans (qgl ht (h8.ok h) qhj)
  exact h9.trans (qi ht (h9.ok h) _)
 split
 ·have h1 := qf ht h (by assumption)
  have h2 := h1.trans (qat ht _ (h1.ok h))
  exact h2.trans (qi ht (h2.ok h) _)
 ·have h1 := qi ht h qjx
  exact h1.trans (qi ht (h1.ok h) _)
theorem qte : ∀ (n : Nat) (l : List Tr) (p : Ps), AtOk ts p → Step ts p (qcu ts n l p).2
 | 0, l, p, h => h.refl
 | n + 1, l, p, h => by
  rw [qcu]
  split
  ·have h2 := qtd ht _ h
   exact h2.trans (qte n _ _ (h2.ok h))
  ·exact h.refl
end
end Pa
end Go.Proofs.YtdoaagphhjggbaaGreatDoor
end
section
namespace Go.Proofs.YtdoaagphhjggbaaGreatDoor
open Go.Sx Go.RowKit
set_option maxRecDepth 100000
theorem jae (c : Int) : Con Tryz.prog 41 [.int .u8 c] (.bool (decide (48 ≤ c) && decide (c ≤ 57))) := qyc c
theorem jlg (c : Int) : Con Tryz.prog 39 [.int .u8 c] (.bool (decide (65 ≤ c) && decide (c ≤ 90) || decide (97 ≤ c) && decide (c ≤ 122))) := qrz c
theorem jaf (l : List UInt8) (c : Int) (hl : l.length ≤ 1000) : Con Tryz.prog 37 [.str l, .int .u8 c] (.bool (Lx.hasB l c)) := by
 refine zK {} 100 Tryz.func37 (fun c0 rdb => ?_)
 (conv => whnf); refine qja (fun _ => rfl) 100 1 (fun k : Nat => ⟨[(0, .str l), (1, .int .u8 c), (5, .int .i64 k)], [], 0⟩)
  (fun k => k ≤ l.length ∧ Lx.hasB (l.take k) c = false) (fun k => l.length - k) 0 ⟨by omega, by simp [Lx.hasB]⟩ subA (fun _ => rfl) (by kernel_rfl) ?_
 rintro k ⟨hk, hf⟩
 repeat' ((conv => whnf); first | refine Ob.auto ?_ | (apply zB <;> intro hb <;> (try simp at hb) <;> try (exfalso; omega)))
 ·have h1 := Lx.hasB_step (by assumption) c
  refine Le.of_eq (congrArg AV.bool ?_)
  rw [hb, beq_self_eq_true, Bool.or_true] at h1
  exact (Lx.hasB_take h1).symm
 ·(conv => whnf); refine Exists.intro (k + 1) ⟨⟨by omega, ?_⟩, subA, by omega⟩
  rw [Lx.hasB_step (by assumption) c, hf]
  simpa using hb
 ·rw [List.take_of_length_le (by omega)] at hf
  exact Le.of_eq (by rw [hf])
theorem jlh (c : Int) : Con Tryz.prog 40 [.int .u8 c] (.bool (Lx.wordC c)) := qyd c
theorem qpi (s : List UInt8) (i : Nat) (hi : i ≤ s.length) (hs : s.length ≤ 1000000) : Con Tryz.prog 38 [.str s, .int .i64 i] (.str (Lx.twoL (s.drop i))) := by
 refine zK {} 100 Tryz.func38 (fun c0 rdb => ?_)
 repeat' ((conv => whnf); first | refine Ob.auto ?_ | (apply zB <;> intro hb <;> (try simp at hb) <;> try (exfalso; omega)))
 ·refine Le.of_eq (congrArg AV.str ?_)
  rw [Lx.twoL, List.length_drop, if_pos (by omega), show ((i : Int) + 2).toNat = i + 2 by omega, Int.toNat_natCast, List.drop_take, Nat.add_sub_cancel_left]
 ·refine Le.of_eq (congrArg AV.str ?_)
  rw [Lx.twoL, List.length_drop, if_neg (by omega)]
end Go.Proofs.YtdoaagphhjggbaaGreatDoor
end
