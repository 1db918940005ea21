/- Some texts of the library, one behind the other. -/
import Derived.Test.YtdoaagphhjggbaaQPa0
import Derived.Test.YtdoaagphhjggbaaQ4
import Derived.Test.YtdoaagphhjggbaaQ2
import Derived.Test.YtdoaagphhjggbaaProg
import Derived.KernelRfl
import Derived.Test.YtdoaagphhjggbaaQLexPlain
section
namespace Go.Proofs.Ytdoaagphhjggbaa
namespace Pa
open Go Go.Sx
structure ToksOk (ts : List Lx.Tok) : Prop where
 len : ts.length ≤ 5000
 last : ∀ i, i < ts.length → ((ts.getD i Lx.tok0).kind = 3 ↔ i + 1 = ts.length)
 num : ∀ t ∈ ts, t.kind = 1 → t.s.length ≤ 6 ∧ ∀ b ∈ t.s, 48 ≤ b.toNat ∧ b.toNat ≤ 57
structure AtOk (ts : List Lx.Tok) (p : Ps) : Prop where
 lo : 0 ≤ p.at_
 hi : p.at_ < ts.length
structure Step (ts : List Lx.Tok) (p q : Ps) : Prop where
 le : p.at_ ≤ q.at_
 hi : q.at_ < ts.length
 deep : q.deep = p.deep
 err : p.err ≠ 0 → q = p
theorem qyn (s : List UInt8) (b : UInt8) : qfp (s ++ [b]) = 10 * qfp s + ((b.toNat : Int) - 48) := by
 unfold qfp; rw [List.foldl_append]; rfl
theorem qsl {s : List UInt8} (h : ∀ b ∈ s, 48 ≤ b.toNat ∧ b.toNat ≤ 57) : ∀ i, i ≤ s.length → 0 ≤ qfp (s.take i) ∧ qfp (s.take i) < 10 ^ i
 | 0, _ => by simp [qfp]
 | i + 1, hi => by
  have h1 := qsl h i (by omega)
  rw [List.take_succ_eq_append_getElem (by omega), qyn, Int.pow_succ]
  have h2 := h _ (List.getElem_mem (by omega : i < s.length))
  omega
section
variable {ts : List Lx.Tok} {p q r : Ps}
theorem qyo (h : AtOk ts p) : tk ts p ∈ ts := by
 have h0 := h.lo
 have h1 := h.hi
 unfold tk
 rw [List.getD_eq_getElem?_getD, List.getElem?_eq_getElem (by omega)]
 exact List.getElem_mem _
theorem AtOk.refl (h : AtOk ts p) : Step ts p p := ⟨Int.le_refl _, h.hi, rfl, fun _ => rfl⟩
theorem Step.trans (h : Step ts p q) (k : Step ts q r) : Step ts p r :=
 ⟨Int.le_trans h.le k.le, k.hi, k.deep.trans h.deep, fun e => by have := h.err e; subst this; exact k.err e⟩
theorem Step.ok (h : AtOk ts p) (k : Step ts p q) : AtOk ts q := ⟨Int.le_trans h.lo k.le, k.hi⟩
theorem jjq {s : List UInt8} (h : sees ts p s = true) : p.err = 0 := by
 unfold sees at h
 simp only [Bool.and_eq_true, beq_iff_eq] at h
 exact h.1
theorem jjr {s : List UInt8} (h : sees ts p s = true) : (tk ts p).kind = 2 ∨ (tk ts p).kind = 0 := by
 unfold sees qsk at h
 simp only [Bool.and_eq_true, Bool.or_eq_true, beq_iff_eq] at h
 rcases h.2.2 with h | h
 ·exact .inl h
 ·exact .inr h.1
theorem jjs (h : qgl ts p = true) : p.err = 0 := by
 unfold qgl at h; simp only [Bool.and_eq_true, beq_iff_eq] at h; exact h.2
theorem jjt (h : qfo ts p = true) : p.err = 0 := by
 unfold qfo at h; simp only [Bool.and_eq_true, beq_iff_eq] at h; exact h.2
variable (ht : ToksOk ts)
include ht
theorem jju (h : AtOk ts p) (hk : (tk ts p).kind ≠ 3) : p.at_ + 1 < ts.length := by
 have h0 := h.lo
 have h1 := h.hi
 have h2 := ht.last p.at_.toNat (by omega)
 have h3 : ¬ (p.at_.toNat + 1 = ts.length) := fun e => hk (h2.2 e)
 omega
theorem qsm (h : AtOk ts p) (hk : (tk ts p).kind ≠ 3) (he : p.err = 0) : Step ts p (adv p) :=
 ⟨by show p.at_ ≤ p.at_ + 1; omega, jju ht h hk, rfl, fun e => absurd he e⟩
theorem qg (h : AtOk ts p) {s : List UInt8} (hs : sees ts p s = true) : Step ts p (adv p) :=
 qsm ht h (by have := jjr hs; omega) (jjq hs)
omit ht in
theorem qsn (h : AtOk ts p) (e : Int) : Step ts p (bad ts p e) := by
 unfold bad
 split
 ·rename_i he
  exact ⟨Int.le_refl _, h.hi, rfl, fun e => absurd he e⟩
 ·exact h.refl
theorem qgm (h : AtOk ts p) (s : List UInt8) : Step ts p (took ts p s) := by
 unfold took
 split
 ·exact qg ht h (by assumption)
 ·exact h.refl
theorem qi (h : AtOk ts p) (s : List UInt8) : Step ts p (must ts p s) := by
 unfold must
 split
 ·exact qg ht h (by assumption)
 ·exact qsn h 11
theorem qag (h : AtOk ts p) : Step ts p (qe ts p) := by
 unfold qe
 split
 ·rename_i hn
  refine qsm ht h ?_ (jjs hn)
  unfold qgl at hn
  simp only [Bool.and_eq_true, beq_iff_eq] at hn
  omega
 ·exact qsn h 11
theorem qba (h : AtOk ts p) : Step ts p (numP ts p) := by
 unfold numP
 split
 ·rename_i hn
  refine qsm ht h ?_ (jjt hn)
  unfold qfo at hn
  simp only [Bool.and_eq_true, beq_iff_eq] at hn
  omega
 ·exact qsn h 11
abbrev Runs (ts : List Lx.Tok) (f : Ps → Tr × Ps) : Prop := ∀ p, AtOk ts p → Step ts p (f p).2
theorem qit {f : Ps → Tr × Ps} (hf : Runs ts f) {c : Ps → Bool} {sg : Ps → Int} (hc : ∀ p, c p = true → ∃ s, sees ts p s = true) : ∀ (n : Nat) (a : Tr) (p : Ps), AtOk ts p → Step ts p (qaj f c sg n a p).2
 | 0, a, p, h => h.refl
 | n + 1, a, p, h => by
  rw [qaj]
  split
  ·rename_i hcp
   obtain ⟨s, hs⟩ := hc p hcp
   have h1 := qg ht h hs
   have h2 := hf _ (h1.ok h)
   exact h1.trans (h2.trans (qit hf hc n _ _ (h2.ok (h1.ok h))))
  ·exact h.refl
theorem qyp {f : Ps → Tr × Ps} (hf : Runs ts f) (s : List UInt8) (sg : Int) : Runs ts (qkk ts f s sg) := fun p h => by
 have h1 := hf p h
 unfold qkk
 split
 ·rename_i hs
  have h2 := qg ht (h1.ok h) hs
  exact h1.trans (h2.trans (hf _ (h2.ok (h1.ok h))))
 ·exact h1
omit ht in
theorem qyq {p : Ps} (h : qdj ts p = true) : ∃ s, sees ts p s = true := by
 unfold qdj at h
 simp only [Bool.or_eq_true] at h
 rcases h with h | h | h <;> exact ⟨_, h⟩
omit ht in
theorem qyr {p : Ps} (h : sumC ts p = true) : ∃ s, sees ts p s = true := by
 unfold sumC at h
 simp only [Bool.or_eq_true] at h
 rcases h with h | h <;> exact ⟨_, h⟩
section
variable {part : Ps → Tr × Ps} (hp : Runs ts part)
include hp
theorem qmo : Runs ts (qbr ts part) := fun p h => (hp p h).trans (qit ht hp (fun _ => qyq) _ _ _ ((hp p h).ok h))
theorem qso : Runs ts (sumF ts part) := fun p h => (qmo ht hp p h).trans (qit ht (qmo ht hp) (fun _ => qyr) _ _ _ ((qmo ht hp p h).ok h))
theorem qsp : Runs ts (qbp ts part) := qyp ht (qso ht hp) _ _
theorem qmp : Runs ts (qcu ts part) := qyp ht (qsp ht hp) _ _
theorem qmq : Runs ts (andF ts part) := fun p h => (qmp ht hp p h).trans (qit ht (qmp ht hp) (fun _ h => ⟨_, h⟩) _ _ _ ((qmp ht hp p h).ok h))
theorem qpa : Runs ts (qdk ts part) := fun p h => (qmq ht hp p h).trans (qit ht (qmq ht hp) (fun _ h => ⟨_, h⟩) _ _ _ ((qmq ht hp p h).ok h))
end
omit ht in
theorem qcc (h : AtOk ts p) : AtOk ts (inP ts p) ∧ (inP ts p).at_ = p.at_ ∧ (inP ts p).deep = p.deep + 1 ∧ (p.err ≠ 0 → (inP ts p).err = p.err ∧ (inP ts p).fat = p.fat) := by
 unfold inP
 split
 ·unfold bad
  split
  ·rename_i he
   exact ⟨⟨h.lo, h.hi⟩, rfl, rfl, fun e => absurd he e⟩
  ·exact ⟨⟨h.lo, h.hi⟩, rfl, rfl, fun _ => ⟨rfl, rfl⟩⟩
 ·exact ⟨⟨h.lo, h.hi⟩, rfl, rfl, fun _ => ⟨rfl, rfl⟩⟩
omit ht in
theorem qhp (h : AtOk ts p) (hs : Step ts (inP ts p) q) : Step ts p (outP q) := by
 obtain ⟨h1, h2, h3, h4⟩ := qcc h
 refine ⟨by have := hs.le; show p.at_ ≤ q.at_; omega, hs.hi, by have := hs.deep; show q.deep - 1 = p.deep; omega, fun e => ?_⟩
 have h5 := h4 e
 have h6 := hs.err (by rw [h5.1]; exact e)
 subst h6
 show ({ (inP ts p) with deep := (inP ts p).deep - 1 } : Ps) = p
 rw [h3]
 cases p
 simp only [Ps.mk.injEq]
 exact ⟨h2, by simp, h5.1, h5.2⟩
omit ht in
theorem jjv {f : Ps → Tr × Ps} (hf : Runs ts f) (h : AtOk ts p) : Step ts p (ifOk f p).2 := by
 unfold ifOk
 split
 ·exact hf p h
 ·exact h.refl
theorem qes : ∀ n, Runs ts (qad ts n)
 | 0 => fun p h => h.refl
 | n + 1 => fun p h => by
  unfold qad
  simp only
  split
  ·exact qba ht h
  split
  ·rename_i hs
   have h1 := qg ht h hs
   exact h1.trans (qag ht (h1.ok h))
  split
  ·rename_i hs
   have h1 : Step ts p (adv p) := by rcases hs with hs | hs <;> exact qg ht h hs
   exact h1.trans (qhp (h1.ok h) (jjv (qes n) (qcc (h1.ok h)).1))
  split
  ·rename_i hs
   have h1 := qg ht h hs
   have h2 := (qcc (h1.ok h)).1
   have h3 : Step ts (adv p) (outP (if (inP ts (adv p)).err = 0 then (qdk ts (qad ts n) (inP ts (adv p))).2 else inP ts (adv p))) := by
    refine qhp (h1.ok h) ?_
    split
    ·exact qpa ht (qes n) _ h2
    ·exact h2.refl
   exact h1.trans (h3.trans (qi ht (h3.ok (h1.ok h)) _))
  ·exact qag ht h
theorem qax : Runs ts (eF ts) := qpa ht (qes ht _)
section
variable {stat : Ps → Tr × Ps} (hs : Runs ts stat)
include hs
theorem qfr : ∀ (n : Nat) (l : List Tr) (p : Ps), AtOk ts p → Step ts p (je ts stat n l p).2
 | 0, l, p, h => h.refl
 | n + 1, l, p, h => by
  rw [je]
  split
  ·split
   ·exact qg ht h (by assumption)
   ·exact (hs p h).trans (qfr n _ _ ((hs p h).ok h))
  ·exact h.refl
theorem qpb : Runs ts (qn ts stat) := fun p h => by
 have h1 := qi ht h sLc
 exact h1.trans (qhp (h1.ok h) (qfr ht hs _ _ _ (qcc (h1.ok h)).1))
end
theorem qmr {blk : Ps → Tr × Ps} (hb : Runs ts blk) : ∀ (n : Nat) (l : List Tr) (p : Ps), AtOk ts p → Step ts p (orL ts blk n l p).2
 | 0, l, p, h => h.refl
 | n + 1, l, p, h => by
  rw [orL]
  split
  ·have h1 := qg ht h (by assumption)
   have h2 := hb _ (h1.ok h)
   exact h1.trans (h2.trans (qmr hb n _ _ (h2.ok (h1.ok h))))
  ·exact h.refl
theorem jjw {blk : Ps → Tr × Ps} (hb : Runs ts blk) (a i : Int) : Runs ts (qcv ts blk a i) := fun p h => by
 unfold qcv
 split
 ·have h1 := qg ht h (by assumption)
  have h2 := qag ht (h1.ok h)
  have h3 := qag ht (h2.ok (h1.ok h))
  exact h1.trans (h2.trans (h3.trans (qi ht (h3.ok (h2.ok (h1.ok h))) _)))
 split
 ·have h1 := qg ht h (by assumption)
  have h2 := qax ht _ (h1.ok h)
  exact h1.trans (h2.trans (qi ht (h2.ok (h1.ok h)) _))
 ·have h1 := qi ht h qz
  have h2 := hb _ (h1.ok h)
  exact h1.trans (h2.trans (qmr ht hb _ _ _ (h2.ok (h1.ok h))))
theorem qiu : ∀ n, Runs ts (qc ts n)
 | 0 => fun p h => h.refl
 | n + 1 => fun p h => by
  have hb := qpb ht (qiu n)
  unfold qc
  simp only
  split
  ·have h1 := qgm ht h qdi
   exact h1.trans (jjw ht hb _ _ _ (h1.ok h))
  split
  ·have h1 := qg ht h (by assumption)
   have h2 := qag ht (h1.ok h)
   have h3 := qax ht _ (h2.ok (h1.ok h))
   exact h1.trans (h2.trans (h3.trans (qi ht (h3.ok (h2.ok (h1.ok h))) _)))
  split
  ·have h1 := qg ht h (by assumption)
   have h2 := qax ht _ (h1.ok h)
   have h3 := hb _ (h2.ok (h1.ok h))
   have h4 := h1.trans (h2.trans h3)
   split
   ·have h5 := qg ht (h4.ok h) (by assumption)
    exact h4.trans (h5.trans (hb _ (h5.ok (h4.ok h))))
   ·exact h4
  split
  ·have h1 := qg ht h (by assumption)
   have h2 := qax ht _ (h1.ok h)
   exact h1.trans (h2.trans (hb _ (h2.ok (h1.ok h))))
  split
  ·have h1 := qg ht h (by assumption)
   exact h1.trans (hb _ (h1.ok h))
  split
  ·have h1 := qg ht h (by assumption)
   exact h1.trans (qi ht (h1.ok h) _)
  split
  ·have h1 := qg ht h (by assumption)
   exact h1.trans (qi ht (h1.ok h) _)
  ·have h1 := qag ht h
   have h2 := qi ht (h1.ok h) sEq
   have h3 := qax ht _ (h2.ok (h1.ok h))
   exact h1.trans (h2.trans (h3.trans (qi ht (h3.ok (h2.ok (h1.ok h))) _)))
theorem qhq : Runs ts (sF ts) := qiu ht _
theorem qkm : Runs ts (jl ts) := fun p h => by
 unfold jl
 simp only
 have h1 := qi ht h kVar
 have h2 := qag ht (h1.ok h)
 have h3 := h1.trans h2
 have h4 := h3.trans (qi ht (h3.ok h) kOf)
 have h5 := h4.trans (qba ht (h4.ok h))
 split
 ·have h6 := h5.trans (qg ht (h5.ok h) (by assumption))
  split
  ·have h7 := h6.trans (qg ht (h6.ok h) (by assumption))
   have h8 := h7.trans (qba ht (h7.ok h))
   exact h8.trans (qi ht (h8.ok h) _)
  ·have h8 := h6.trans (qba ht (h6.ok h))
   exact h8.trans (qi ht (h8.ok h) _)
 ·exact h5.trans (qi ht (h5.ok h) _)
theorem qms : ∀ (n : Nat) (l : List Tr) (p : Ps), AtOk ts p → Step ts p (qbi ts n l p).2
 | 0, l, p, h => h.refl
 | n + 1, l, p, h => by
  rw [qbi]
  split
  ·have h2 := qkm ht _ h
   exact h2.trans (qms n _ _ (h2.ok h))
  ·exact h.refl
theorem jjx : Runs ts (qcw ts) := fun p h => by
 unfold qcw
 simp only
 have h1 := qi ht h qv
 have h3 := h1.trans (qag ht (h1.ok h))
 have h4 : Step ts p (if sees ts (qe ts (must ts p qv)) qer = true then (numN ts (adv (qe ts (must ts p qv))), numP ts (adv (qe ts (must ts p qv)))) else (1, qe ts (must ts p qv))).2 := by
  split
  ·have h5 := h3.trans (qg ht (h3.ok h) (by assumption))
   exact h5.trans (qba ht (h5.ok h))
  ·exact h3
 have h5 := h4.trans (qi ht (h4.ok h) sLc)
 have h6 := h5.trans (qms ht ts.length [] _ (h5.ok h))
 exact h6.trans (qhp (h6.ok h) (qfr ht (qhq ht) _ _ _ (qcc (h6.ok h)).1))
theorem qsq : Runs ts (itemF ts) := fun p h => by
 unfold itemF
 simp only
 split
 ·exact qkm ht _ h
 split
 ·exact jjx ht _ h
 split
 ·have h1 := qg ht h (by assumption)
  have h2 := h1.trans (qag ht (h1.ok h))
  have h3 := h2.trans (qi ht (h2.ok h) sLb)
  have h4 := h3.trans (qba ht (h3.ok h))
  have h5 := h4.trans (qi ht (h4.ok h) sRb)
  have h6 := h5.trans (qi ht (h5.ok h) kOf)
  have h7 := h6.trans (qba ht (h6.ok h))
  have h8 := h7.trans (qgm ht (h7.ok h) qgk)
  have h9 := h8.trans (qgm ht (h8.ok h) qhn)
  exact h9.trans (qi ht (h9.ok h) _)
 split
 ·have h1 := qg ht h (by assumption)
  have h2 := h1.trans (qax ht _ (h1.ok h))
  exact h2.trans (qi ht (h2.ok h) _)
 ·have h1 := qi ht h qkj
  exact h1.trans (qi ht (h1.ok h) _)
theorem qsr : ∀ (n : Nat) (l : List Tr) (p : Ps), AtOk ts p → Step ts p (qcx ts n l p).2
 | 0, l, p, h => h.refl
 | n + 1, l, p, h => by
  rw [qcx]
  split
  ·have h2 := qsq ht _ h
   exact h2.trans (qsr n _ _ (h2.ok h))
  ·exact h.refl
end
end Pa
end Go.Proofs.Ytdoaagphhjggbaa
end
section
namespace Go.Proofs.Ytdoaagphhjggbaa
open List renaming getD_eq_getElem?_getD → zd
open Go Go.Sx Go.RowKit Go.St
set_option maxRecDepth 100000
set_option maxHeartbeats 2000000
abbrev bv (n : Int) : AV := .int .u8 n
theorem qys (c : Int) : Con Try.prog 68 [bv c] (.bool (decide (48 ≤ c) && decide (c ≤ 57))) := by
 refine zK {} 300 Try.func68 (fun c0 rdb => ?_)
 (repeat' ((conv => whnf); first | refine Ob.auto ?_ | fail))
 exact Le.refl _
theorem qss (c : Int) : Con Try.prog 66 [bv c] (.bool (qmb c)) := by
 refine zK {} 300 Try.func66 (fun c0 rdb => ?_)
 (repeat' ((conv => whnf); first | refine Ob.auto ?_ | fail))
 exact Le.refl _
theorem qyt (c : Int) : Con Try.prog 67 [bv c] (.bool (qmc c)) := by
 refine zK {} 300 Try.func67 (fun c0 rdb => ?_)
 (repeat' ((conv => whnf); first | refine Ob.auto ?_ | refine zC 300 (qss c) ?_ | refine zG 300 (fun hg => qys c) ?_ | fail))
 exact Le.refl _
theorem jjy (f : Nat → List AV) (h : ∀ i, i < 21 → f i = encL (fun s => [.str s]) [] keyL i) : Le (.slc 1 21 f) (strs keyL) := Le.slc rfl h
theorem qyu (s : List UInt8) : Con Try.prog 107 [.str s] (.bool (keyF s)) := by
 refine zK {} 300 Try.func107 (fun c0 rdb => ?_)
 ((conv => whnf); refine qx (fun _ => rfl) 300 1 (fun i : Nat => [(4, iv i), (3, strs keyL)]) (fun _ => []) (fun i => i ≤ keyL.length ∧ ∀ j, j < i → (keyL.getD j [] == s) = false) (fun i => keyL.length - i) (0) (⟨by omega, fun j hj => absurd hj (Nat.not_lt_zero j)⟩) ⟨Le.refl _, jjy _ (fun i hi => match i, hi with | 0, _ => rfl | 1, _ => rfl | 2, _ => rfl | 3, _ => rfl | 4, _ => rfl | 5, _ => rfl | 6, _ => rfl | 7, _ => rfl | 8, _ => rfl | 9, _ => rfl | 10, _ => rfl | 11, _ => rfl | 12, _ => rfl | 13, _ => rfl | 14, _ => rfl | 15, _ => rfl | 16, _ => rfl | 17, _ => rfl | 18, _ => rfl | 19, _ => rfl | 20, _ => rfl | n + 21, h => absurd h (by omega)), trivial⟩ qa (fun _ => rfl) (by kernel_rfl) ?_; (conv => whnf))
 intro i hi
 have h21 : keyL.length = 21 := rfl
 (repeat' ((conv => whnf); first | refine Ob.auto ?_ | (apply zB <;> intro hb <;> (try simp [-zd] at hb) <;> try (exfalso; omega))))
 ·refine Le.of_eq (congrArg AV.bool ?_)
  unfold keyF
  exact (List.any_eq_true.2 ⟨keyL.getD i [], qo keyL i [] (by omega), by simpa using hb⟩).symm
 ·((conv => whnf); refine ⟨i + 1, ⟨by omega, qbo hi.2 (beq_eq_false_iff_ne.2 hb)⟩, ⟨qa, qa⟩, ⟨qa, qa⟩, ?_⟩; (first | omega | (dsimp only; omega) | skip))
 ·refine Le.of_eq (congrArg AV.bool ?_)
  unfold keyF
  rw [eq_comm, Bool.eq_false_iff]
  intro h
  obtain ⟨x, hx, he⟩ := List.any_eq_true.1 h
  obtain ⟨j, hj, rfl⟩ := List.mem_iff_getElem.1 hx
  have := hi.2 j (by omega)
  rw [zd, List.getElem?_eq_getElem hj] at this
  simp only [Option.getD_some] at this
  rw [this] at he; cases he
theorem jjz (s : List UInt8) : Con Try.prog 106 [.str s] (.bool (nameF s)) := by
 refine zK {} 300 Try.func106 (fun c0 rdb => ?_)
 (repeat' ((conv => whnf); first | refine Ob.auto ?_ | (refine Ob.intro (by ((intro h; simp at h ⊢; exact ⟨h, by have := List.length_pos_iff.2 h.1; omega⟩))) ?_) | refine zG 300 (fun hg => qss _) ?_ | refine zG 300 (fun hg => qyu s) ?_ | (apply zB <;> intro hb <;> (try simp [-zd] at hb) <;> try (exfalso; omega))))
 ·refine Le.of_eq (congrArg AV.bool ?_)
  unfold nameF
  have : (decide (s.length = 0) || decide (12 < s.length) || !qmb (qap s 0) || keyF s) = true := by
   simp only [Bool.or_eq_true, decide_eq_true_eq, List.length_eq_zero_iff, Bool.not_eq_true']
   rcases hb with ((hb | hb) | hb) | hb
   ·exact .inl (.inl (.inl hb))
   ·exact .inl (.inl (.inr (by omega)))
   ·exact .inl (.inr hb)
   ·exact .inr hb
  rw [this]; rfl
 ·have h0 : (decide (s.length = 0) || decide (12 < s.length) || !qmb (qap s 0) || keyF s) = false := by
   simp only [Bool.or_eq_false_iff, decide_eq_false_iff_not, List.length_eq_zero_iff, Bool.not_eq_false']
   exact ⟨⟨⟨hb.1.1.1, by omega⟩, hb.1.2⟩, hb.2⟩
  ((conv => whnf); refine qx (fun _ => rfl) 300 1 (fun i : Nat => [(3, iv i)]) (fun _ => []) (fun i => i ≤ s.length ∧ ∀ j, j < i → qmc (qap s j) = true) (fun i => s.length - i) (0) (⟨by omega, fun j hj => absurd hj (Nat.not_lt_zero j)⟩) qa qa (fun _ => rfl) (by kernel_rfl) ?_; (conv => whnf))
  intro i hi
  (repeat' ((conv => whnf); first | refine Ob.auto ?_ | refine zC 300 (qyt _) ?_ | (apply zB <;> intro hb <;> (try simp [-zd] at hb) <;> try (exfalso; omega))))
  ·refine Le.of_eq (congrArg AV.bool ?_)
   unfold nameF
   rw [h0, qyf (q := fun i => qmc (qap s i)) (i := i) (by omega) hb]; rfl
  ·((conv => whnf); refine ⟨i + 1, ⟨by omega, qbo hi.2 hb⟩, ⟨qa, qa⟩, ⟨qa, qa⟩, ?_⟩; (first | omega | (dsimp only; omega) | skip))
  ·refine Le.of_eq (congrArg AV.bool ?_)
   unfold nameF
   rw [h0, qly (q := fun i => qmc (qap s i)) (fun j hj => hi.2 j (by omega))]; rfl
end Go.Proofs.Ytdoaagphhjggbaa
end
section
namespace Go.Proofs.Ytdoaagphhjggbaa
open Go.Sx Go.RowKit
set_option maxRecDepth 100000
theorem qyv (c : Int) : Con Try.prog 68 [.int .u8 c] (.bool (decide (48 ≤ c) && decide (c ≤ 57))) := qys c
theorem jka (c : Int) : Con Try.prog 66 [.int .u8 c] (.bool (decide (65 ≤ c) && decide (c ≤ 90) || decide (97 ≤ c) && decide (c ≤ 122))) := qss c
theorem qyw (l : List UInt8) (c : Int) (hl : l.length ≤ 1000) : Con Try.prog 64 [.str l, .int .u8 c] (.bool (Lx.hasB l c)) := by
 refine zK {} 100 Try.func64 (fun c0 rdb => ?_)
 (conv => whnf); refine qih (fun _ => rfl) 100 1 (fun k : Nat => ⟨[(0, .str l), (1, .int .u8 c), (5, .int .i64 k)], [], 0⟩)
  (fun k => k ≤ l.length ∧ Lx.hasB (l.take k) c = false) (fun k => l.length - k) 0 ⟨by omega, by simp [Lx.hasB]⟩ subA (fun _ => rfl) (by kernel_rfl) ?_
 rintro k ⟨hk, hf⟩
 repeat' ((conv => whnf); first | refine Ob.auto ?_ | (apply zB <;> intro hb <;> (try simp at hb) <;> try (exfalso; omega)))
 ·have h1 := Lx.hasB_step (by assumption) c
  refine Le.of_eq (congrArg AV.bool ?_)
  rw [hb, beq_self_eq_true, Bool.or_true] at h1
  exact (Lx.hasB_take h1).symm
 ·(conv => whnf); refine Exists.intro (k + 1) ⟨⟨by omega, ?_⟩, subA, by omega⟩
  rw [Lx.hasB_step (by assumption) c, hf]
  simpa using hb
 ·rw [List.take_of_length_le (by omega)] at hf
  exact Le.of_eq (by rw [hf])
theorem jkb (c : Int) : Con Try.prog 67 [.int .u8 c] (.bool (Lx.wordC c)) := qyt c
theorem qpc (s : List UInt8) (i : Nat) (hi : i ≤ s.length) (hs : s.length ≤ 1000000) : Con Try.prog 65 [.str s, .int .i64 i] (.str (Lx.twoL (s.drop i))) := by
 refine zK {} 100 Try.func65 (fun c0 rdb => ?_)
 repeat' ((conv => whnf); first | refine Ob.auto ?_ | (apply zB <;> intro hb <;> (try simp at hb) <;> try (exfalso; omega)))
 ·refine Le.of_eq (congrArg AV.str ?_)
  rw [Lx.twoL, List.length_drop, if_pos (by omega), show ((i : Int) + 2).toNat = i + 2 by omega, Int.toNat_natCast, List.drop_take, Nat.add_sub_cancel_left]
 ·refine Le.of_eq (congrArg AV.str ?_)
  rw [Lx.twoL, List.length_drop, if_neg (by omega)]
end Go.Proofs.Ytdoaagphhjggbaa
end
