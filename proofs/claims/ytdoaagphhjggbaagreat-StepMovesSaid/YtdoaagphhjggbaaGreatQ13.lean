/- Some texts of the library, one behind the other. -/
import Derived.Test.YtdoaagphhjggbaaGreatQPa2
import Derived.Test.YtdoaagphhjggbaaGreatQPa4
import Derived.Test.YtdoaagphhjggbaaGreatQ2
section
/- The document's parser in plain Lean: what is read has tokens. -/
namespace Go.Proofs.YtdoaagphhjggbaaGreat
namespace Pa
open Go Go.Sx
section
variable {ts : List Lx.Tok} {p q r : Ps}
theorem Step.err0 (h : Step ts p q) (e : q.err = 0) : p.err = 0 := Classical.byContradiction fun hp => by
 have := h.err hp
 subst this
 exact hp e
theorem qvw (h : (bad ts p 11).err = 0) : False := by
 unfold bad at h
 split at h
 ·simp at h
 ·rename_i hp; exact hp h
theorem qhd {s : List UInt8} (h : (must ts p s).err = 0) : sees ts p s = true ∧ (must ts p s).at_ = p.at_ + 1 := by
 unfold must at h ⊢
 split
 ·exact ⟨by assumption, rfl⟩
 ·rename_i hn
  rw [if_neg hn] at h
  exact (qvw h).elim
theorem qsc (h : (qg ts p).err = 0) : (qg ts p).at_ = p.at_ + 1 := by
 unfold qg at h ⊢
 split
 ·rfl
 ·rename_i hn
  rw [if_neg hn] at h
  exact (qvw h).elim
theorem jmw (h : (numP ts p).err = 0) : (numP ts p).at_ = p.at_ + 1 := by
 unfold numP at h ⊢
 split
 ·rfl
 ·rename_i hn
  rw [if_neg hn] at h
  exact (qvw h).elim
abbrev qhe (ts : List Lx.Tok) (f : Ps → Tr × Ps) : Prop := ∀ p, AtOk ts p → (f p).2.err = 0 → p.at_ < (f p).2.at_
variable (ht : ToksOk ts)
include ht
theorem jmx {blk : Ps → Tr × Ps} (hb : Runs ts blk) (a i : Int) : qhe ts (qdt ts blk a i) := fun p h he => by
 unfold qdt at he ⊢
 split
 ·rename_i hs
  rw [if_pos hs] at he
  have h1 := qi ht h hs
  have h2 := qas ht (h1.ok h)
  have h3 := qas ht (h2.ok (h1.ok h))
  have h4 := h2.trans (h3.trans (ql ht (h3.ok (h2.ok (h1.ok h))) qu))
  have : p.at_ + 1 ≤ _ := h4.le
  simp only; omega
 ·rename_i hs
  rw [if_neg hs] at he
  split
  ·rename_i hw
   have h1 := qi ht h hw
   have h2 := qbi ht _ (h1.ok h)
   have h4 := h2.trans (ql ht (h2.ok (h1.ok h)) qu)
   have : p.at_ + 1 ≤ _ := h4.le
   simp only; omega
  ·rename_i hw
   rw [if_neg hw] at he
   have h1 := ql ht h jg
   have h2 := hb _ (h1.ok h)
   have h3 := h2.trans (qpi ht hb ts.length [(blk (must ts p jg)).1] _ (h2.ok (h1.ok h)))
   have h4 := (qhd (h3.err0 he)).2
   have := h3.le
   simp only at this ⊢; omega
theorem jbm (n : Nat) : qhe ts (qe ts (n + 1)) := fun p h he => by
 have hb := qrz ht (qkm ht n)
 have key : ∀ x : Tr × Ps, qe ts (n + 1) p = x → Step ts p x.2 → (∀ q, Step ts p q → p.at_ < q.at_ → Step ts q x.2 → p.at_ < x.2.at_) := fun x _ _ q _ h1 h2 => Int.lt_of_lt_of_le h1 h2.le
 unfold qe at he ⊢
 simp only at he ⊢
 split
 ·rename_i hw
  rw [if_pos hw] at he
  have h1 := qid ht h qee
  have := jmx ht hb _ _ _ (h1.ok h) he
  have := h1.le
  omega
 rename_i hw
 rw [if_neg hw] at he
 split
 ·have h1 := qi ht h (by assumption)
  have h2 := qas ht (h1.ok h)
  have h3 := qbi ht _ (h2.ok (h1.ok h))
  have h4 : p.at_ + 1 ≤ _ := (h2.trans (h3.trans (ql ht (h3.ok (h2.ok (h1.ok h))) qu))).le
  simp only; omega
 rename_i hw
 rw [if_neg hw] at he
 split
 ·have h1 := qi ht h (by assumption)
  have h2 := qbi ht _ (h1.ok h)
  have h3 := h2.trans (hb _ (h2.ok (h1.ok h)))
  have h4 : p.at_ + 1 ≤ _ := h3.le
  split
  ·have h5 := qi ht (h3.ok (h1.ok h)) (by assumption)
   have h6 := (h5.trans (hb _ (h5.ok (h3.ok (h1.ok h))))).le
   simp only at h6 ⊢; omega
  ·simp only; omega
 rename_i hw
 rw [if_neg hw] at he
 split
 ·have h1 := qi ht h (by assumption)
  have h2 := qbi ht _ (h1.ok h)
  have h4 : p.at_ + 1 ≤ _ := (h2.trans (hb _ (h2.ok (h1.ok h)))).le
  simp only; omega
 rename_i hw
 rw [if_neg hw] at he
 split
 ·have h1 := qi ht h (by assumption)
  have h4 : p.at_ + 1 ≤ _ := (hb _ (h1.ok h)).le
  simp only; omega
 rename_i hw
 rw [if_neg hw] at he
 split
 ·have h1 := qi ht h (by assumption)
  have h4 : p.at_ + 1 ≤ _ := (ql ht (h1.ok h) qu).le
  simp only; omega
 rename_i hw
 rw [if_neg hw] at he
 split
 ·have h1 := qi ht h (by assumption)
  have h4 : p.at_ + 1 ≤ _ := (ql ht (h1.ok h) qu).le
  simp only; omega
 rename_i hw
 rw [if_neg hw] at he
 have h1 := qas ht h
 have h2 := ql ht (h1.ok h) sEq
 have h3 := qbi ht _ (h2.ok (h1.ok h))
 have h4 := h2.trans (h3.trans (ql ht (h3.ok (h2.ok (h1.ok h))) qu))
 have h5 := qsc (h4.err0 he)
 have h6 := h4.le
 simp only at h6 ⊢; omega
theorem jbn : qhe ts (jx ts) := fun p h he => by
 have h1 := ql ht h kVar
 have h0 := qmd ht p h
 unfold jx at he h0 ⊢
 simp only at he h0 ⊢
 have h2 := qas ht (h1.ok h)
 have h3 := h2
 have h4 := h3.trans (ql ht (h3.ok (h1.ok h)) kOf)
 have h5 := h4.trans (qbl ht (h4.ok (h1.ok h)))
 have key : ∀ q, Step ts (must ts p kVar) q → (must ts q qu).err = 0 → p.at_ < (must ts q qu).at_ := fun q hq hqe => by
  have h6 := hq.trans (ql ht (hq.ok (h1.ok h)) qu)
  have h7 := (qhd (h6.err0 hqe)).2
  have := h6.le
  omega
 refine key _ ?_ he
 split
 ·have h6 := h5.trans (qi ht (h5.ok (h1.ok h)) (by assumption))
  split
  ·have h7 := h6.trans (qi ht (h6.ok (h1.ok h)) (by assumption))
   exact h7.trans (qbl ht (h7.ok (h1.ok h)))
  ·exact h6.trans (qbl ht (h6.ok (h1.ok h)))
 ·exact h5
theorem jbo (h : AtOk ts p) : Step ts (must ts p kVar) (jx ts p).2 := by
 have h0 := (ql ht h kVar).ok h
 unfold jx
 simp only
 have h3 := qas ht h0
 have h4 := h3.trans (ql ht (h3.ok h0) kOf)
 have h5 := h4.trans (qbl ht (h4.ok h0))
 split
 ·have h6 := h5.trans (qi ht (h5.ok h0) (by assumption))
  split
  ·have h7 := h6.trans (qi ht (h6.ok h0) (by assumption))
   have h8 := h7.trans (qbl ht (h7.ok h0))
   exact h8.trans (ql ht (h8.ok h0) qu)
  ·have h8 := h6.trans (qbl ht (h6.ok h0))
   exact h8.trans (ql ht (h8.ok h0) qu)
 ·exact h5.trans (ql ht (h5.ok h0) qu)
theorem jbp (h : 0 < ts.length) : qhe ts (sF ts) := by
 show qhe ts (qe ts ts.length)
 obtain ⟨m, hm⟩ : ∃ m, ts.length = m + 1 := ⟨ts.length - 1, by omega⟩
 rw [hm]
 exact jbm ht m
theorem jmy : qhe ts (qdu ts) := fun p h he => by
 have h0 := ql ht h jc
 unfold qdu at he ⊢
 simp only at he ⊢
 have h1 := h0.ok h
 have h3 := qas ht h1
 have h4 : Step ts (must ts p jc) (if sees ts (qg ts (must ts p jc)) qgb = true then (numN ts (adv (qg ts (must ts p jc))), numP ts (adv (qg ts (must ts p jc)))) else (1, qg ts (must ts p jc))).2 := by
  split
  ·have h5 := h3.trans (qi ht (h3.ok h1) (by assumption))
   exact h5.trans (qbl ht (h5.ok h1))
  ·exact h3
 have h5 := h4.trans (ql ht (h4.ok h1) sLc)
 have h6 := h5.trans (qpj ht ts.length [] _ (h5.ok h1))
 generalize qbt ts ts.length [] _ = V at he h6 ⊢
 have h7 := h6.trans (qjf (h6.ok h1) (qhc ht (qjg ht) ts.length V.1 _ (qcy (h6.ok h1)).1))
 have h8 := (qhd (h7.err0 he)).2
 have h9 := h7.le
 omega
theorem jbq : qhe ts (itemF ts) := fun p h he => by
 unfold itemF at he ⊢
 simp only at he ⊢
 split
 ·rename_i hw
  rw [if_pos hw] at he
  exact jbn ht p h he
 rename_i hw
 rw [if_neg hw] at he
 split
 ·rename_i hw
  rw [if_pos hw] at he
  exact jmy ht p h he
 rename_i hw
 rw [if_neg hw] at he
 split
 ·have h1 := qi ht h (by assumption)
  have h2 := qas ht (h1.ok h)
  have h3 := h2.trans (ql ht (h2.ok (h1.ok h)) sLb)
  have h4 := h3.trans (qbl ht (h3.ok (h1.ok h)))
  have h5 := h4.trans (ql ht (h4.ok (h1.ok h)) sRb)
  have h6 := h5.trans (ql ht (h5.ok (h1.ok h)) kOf)
  have h7 := h6.trans (qbl ht (h6.ok (h1.ok h)))
  have h8 := h7.trans (qid ht (h7.ok (h1.ok h)) qib)
  have h9 := h8.trans (qid ht (h8.ok (h1.ok h)) qjd)
  have h10 : p.at_ + 1 ≤ _ := (h9.trans (ql ht (h9.ok (h1.ok h)) qu)).le
  simp only; omega
 rename_i hw
 rw [if_neg hw] at he
 split
 ·have h1 := qi ht h (by assumption)
  have h2 := qbi ht _ (h1.ok h)
  have h4 : p.at_ + 1 ≤ _ := (h2.trans (ql ht (h2.ok (h1.ok h)) qu)).le
  simp only; omega
 rename_i hw
 rw [if_neg hw] at he
 have h1 := ql ht h qma
 have h2 := ql ht (h1.ok h) qu
 have h3 := (qhd (h2.err0 he)).2
 have := h2.le
 simp only at this ⊢; omega
end
end Pa
end Go.Proofs.YtdoaagphhjggbaaGreat
end
section
/- Contracts of the document's parser: statements. -/
namespace Go.Proofs.YtdoaagphhjggbaaGreat
open List renaming getD_eq_getElem?_getD → zd
open Go Go.Sx Go.RowKit Go.St Pa
set_option maxRecDepth 100000
set_option maxHeartbeats 4000000
structure PreW (ts : List Lx.Tok) (n : Nat) (p : Ps) : Prop where
 at_ : AtOk ts p
 deep : 0 ≤ p.deep ∧ p.deep ≤ p.at_ + 2
 ok : p.err = 0 → p.deep ≤ p.at_ + 1
 left : (ts.length : Int) - p.at_ ≤ n
section
variable {ts : List Lx.Tok} {p q : Ps} {n : Nat}
theorem PreW.pre (h : PreW ts n p) (he : p.err = 0) : Pre ts n p := ⟨h.at_, ⟨h.deep.1, h.ok he⟩, h.left⟩
theorem PreW.step (h : PreW ts n p) (k : Step ts p q) (he : p.err = 0) : PreW ts n q :=
 ⟨k.ok h.at_, by have := h.deep; have := k.deep; have := k.le; omega, fun _ => by have := h.ok he; have := k.deep; have := k.le; omega, by have := h.left; have := k.le; omega⟩
abbrev qce (l : List Tr) : Nat → List AV := fun i => (Tr.cellsL l).getD i []
theorem jbs : ∀ (pre old new : List AV), old.length = new.length → qar (pre ++ old) pre.length new = pre ++ new
 | pre, [], [], _ => rfl
 | pre, x :: old, y :: new, h => by
  have e : (pre ++ x :: old).set pre.length y = (pre ++ [y]) ++ old := by simp
  have := jbs (pre ++ [y]) old new (by simpa using h)
  rw [List.length_append] at this
  rw [qar, e]
  simpa using this
 | pre, [], _ :: _, h => by simp at h
 | pre, _ :: _, [], h => by simp at h
theorem qpk {l : List Tr} {t : Tr} {n : Nat} {g : Nat → List AV} (hn : n = l.length) (hg : (g 0).length = 6) : ∀ j, j < l.length + 1 →
  LeL (if j = n then qar (appF l.length (qce l) 1 g n) 0 t.cells else appF l.length (qce l) 1 g j) (qce (l ++ [t]) j) := by
 intro j hj
 refine LeL.of_eq ?_
 subst hn
 have e : qce (l ++ [t]) j = ((l ++ [t]).getD j Tr.none).cells := Tr.cellsL_get _ _ (by simp; omega)
 rw [e, qkd]
 by_cases h : j < l.length
 ·rw [if_neg (by omega), if_pos h, appF, if_pos h]
  exact Tr.cellsL_get _ _ h
 ·obtain rfl : j = l.length := by omega
  rw [if_pos rfl, if_neg (by omega), if_pos rfl, appF, if_neg (by omega)]
  rw [if_pos (by omega), Nat.sub_self]
  exact jbs [] _ _ hg
theorem jmz (ht : ToksOk ts) {stat : Ps → Tr × Ps} (hr : Runs ts stat) (hg : qhe ts stat) (hs : ∀ q, Pre ts n q → RdT ts 145 stat q) (h : PreW ts n p) (k a : Int) :
    Trip Tryz.prog 138 [.ptr 0 0, .ptr 1 0] [pso ts p, .box 106 [iv k, .nils, .nils, .nils, iv a, .nils]] (.tup [])
      [(0, pso ts (jm ts stat ts.length [] p).2), (1, .box 106 [iv k, .nils, .nils, .nils, iv a, .own 2 0 0 (jm ts stat ts.length [] p).1.length]),
       (2, .row [] 106 6 0 (jm ts stat ts.length [] p).1.length (qce (jm ts stat ts.length [] p).1))] 3 := by
  have h2 := ht.len
  refine qci (T := tab Tryz.prog) (C := {}) 600 (fun _ => rfl) Tryz.func138 rfl (by kernel_rfl) (by kernel_rfl) (fun c0 rdb mpb => ?_)
  (repeat' ((conv => whnf); first | refine zA ?_ | refine zO ?_ | refine Ob.auto ?_ | refine zD 600 ?_ | (apply zB <;> intro hb <;> (try simp [-zd] at hb) <;> try (exfalso; omega)) | refine Ob.intro ?_ ?_))
  refine qcw 1 5 106 6 rfl rfl ?_
  ((conv => whnf); refine qp (fun _ => rfl) 600 1 (fun _ : Nat × List Tr × Ps => []) (fun g => [(2, .row [] 106 6 0 g.2.1.length (qce g.2.1)), (1, .box 106 [iv k, .nils, .nils, .nils, iv a, .own 2 0 0 g.2.1.length]), (0, pso ts g.2.2)]) (fun g => PreW ts n g.2.2 ∧ jm ts stat g.1 g.2.1 g.2.2 = jm ts stat ts.length [] p ∧ (g.2.2.err = 0 → (ts.length : Int) - g.2.2.at_ ≤ g.1) ∧ g.2.1.length + g.1 ≤ ts.length) (fun g => g.1) ((ts.length, [], p)) (⟨h, rfl, by have := h.at_.lo; simp only; omega, by simp⟩) qa qa (fun _ => rfl) (by kernel_rfl) ?_; (conv => whnf))
  rintro ⟨m, l, r⟩ ⟨hP, hj, hk, hl⟩
  simp only at hP hj hk hl
  (repeat' ((conv => whnf); first | refine zA ?_ | refine zO ?_ | refine Ob.auto ?_ | (refine Ob.intro (by (exact ja (by dsimp only; omega) (by dsimp only; omega))) ?_) | refine zC 600 (qo) ?_ | refine zG 600 (fun hg => qo) ?_ | (refine CallY.con (qo) (by rfl) leA ?_) | (refine CallZ.con (fun hg => qo) qc (by rfl) ?_) | refine zE 600 (qo) ?_ | refine zF 600 (fun hg => qo) ?_ | refine zD 600 ?_ | (apply zB <;> intro hb <;> (try simp [-zd] at hb) <;> try (exfalso; omega)) | refine Ob.intro ?_ ?_))
  refine jbr (fun _ => rfl) 600 (.bool false) (by kernel_rfl) qc (fun he => ?_) (fun he => ?_)
  · have he' : r.err = 0 := by simpa using he
    ((conv => whnf); refine zT 600 [0] (qav ht hP.at_ sRc) qa ?_)
    (repeat' ((conv => whnf); first | refine zA ?_ | refine zO ?_ | refine Ob.auto ?_ | refine zD 600 ?_ | (apply zB <;> intro hb <;> (try simp [-zd] at hb) <;> try (exfalso; omega)) | refine Ob.intro ?_ ?_))
    · have e1 : took ts r sRc = r := if_neg (by rw [hb.2]; decide)
      have hQ := hP.pre he'
      have hm : 1 ≤ m := by have := hk he'; have := hP.at_.hi; omega
      obtain ⟨m, rfl⟩ : ∃ m', m = m' + 1 := ⟨m - 1, by omega⟩
      rw [jm, if_pos he', if_neg (by rw [hb.2]; decide)] at hj
      dsimp only
      rw [e1]
      ((conv => whnf); refine qbh (fun _ => rfl) (by kernel_rfl) 600 [.turn [0] [.ptr 0 0] [pso ts r] (stat r).1.av [(0, pso ts (stat r).2)]] (by kernel_rfl) ?_)
      (repeat' ((conv => whnf); first | refine zA ?_ | refine zO ?_ | refine Ob.auto ?_ | refine zI ?_ | refine zD 600 ?_ | (apply zB <;> intro hb <;> (try simp [-zd] at hb) <;> try (exfalso; omega)) | refine Ob.intro ?_ ?_))
      · exact ⟨hs r hQ, by kernel_rfl, leA, qa, by exact qb rfl, by exact qb rfl⟩
      have hst := hr r hP.at_
      have hk' : (stat r).2.err = 0 → (ts.length : Int) - (stat r).2.at_ ≤ m := fun h => by have := hg r hP.at_ h; have := hk he'; omega
      ((conv => whnf); refine ⟨(m, l ++ [(stat r).1], (stat r).2), ⟨hP.step hst he', hj, hk', by simp; omega⟩, ⟨qa, ⟨⟨⟨rfl, rfl, rfl⟩, rfl, by simp, qpk (t := (stat r).1) (by simp) rfl⟩, ⟨rfl, Le.refl _, Le.refl _, Le.refl _, Le.refl _, Le.refl _, Le.of_eq (congrArg (AV.own _ _ _) (by simp)), trivial⟩, qa⟩⟩, ⟨qa, qa⟩, ?_⟩; (first | omega | (dsimp only; omega) | skip))
    · have e1 : took ts r sRc = adv r := if_pos (hb he')
      have e2 : (l, adv r) = jm ts stat ts.length [] p := by
        rw [← hj]
        cases m with
        | zero => have := hk he'; have := hP.at_.hi; omega
        | succ m => rw [jm, if_pos he', if_pos (hb he')]
      rw [← e2]
      dsimp only
      rw [e1]
      exact ⟨Le.refl _, qa⟩
  · have he' : ¬ (r.err = 0) := by simpa using he
    (repeat' ((conv => whnf); first | refine zA ?_ | refine zO ?_ | refine Ob.auto ?_ | refine zD 600 ?_ | (apply zB <;> intro hb <;> (try simp [-zd] at hb) <;> try (exfalso; omega)) | refine Ob.intro ?_ ?_))
    have e2 : (l, r) = jm ts stat ts.length [] p := by
      rw [← hj]
      cases m with
      | zero => rfl
      | succ m => rw [jm, if_neg he']
    rw [← e2]
    exact ⟨Le.refl _, qa⟩
theorem jbt (ht : ToksOk ts) {stat : Ps → Tr × Ps} (hr : Runs ts stat) (hg : qhe ts stat) (hs : ∀ q, Pre ts n q → RdT ts 145 stat q) (h : PreW ts n p) (k a : Int) (w : List (List UInt8)) (ns : List Int) (l0 : List Tr) (hl0 : l0.length ≤ 10000) :
    Trip Tryz.prog 138 [.ptr 0 0, .ptr 1 0] [pso ts p, .box 106 [iv k, strs w, ints ns, .nils, iv a, .own 2 0 0 l0.length], .row [] 106 6 0 l0.length (qce l0)] (.tup [])
      [(0, pso ts (jm ts stat ts.length l0 p).2), (1, .box 106 [iv k, strs w, ints ns, .nils, iv a, .own 2 0 0 (jm ts stat ts.length l0 p).1.length]),
       (2, .row [] 106 6 0 (jm ts stat ts.length l0 p).1.length (qce (jm ts stat ts.length l0 p).1))] 3 := by
  have h2 := ht.len
  refine qci (T := tab Tryz.prog) (C := {}) 600 (fun _ => rfl) Tryz.func138 rfl (by kernel_rfl) (by kernel_rfl) (fun c0 rdb mpb => ?_)
  (repeat' ((conv => whnf); first | refine zA ?_ | refine zO ?_ | refine Ob.auto ?_ | refine zD 600 ?_ | (apply zB <;> intro hb <;> (try simp [-zd] at hb) <;> try (exfalso; omega)) | refine Ob.intro ?_ ?_))
  ((conv => whnf); refine qp (fun _ => rfl) 600 1 (fun _ : Nat × List Tr × Ps => []) (fun g => [(2, .row [] 106 6 0 g.2.1.length (qce g.2.1)), (1, .box 106 [iv k, strs w, ints ns, .nils, iv a, .own 2 0 0 g.2.1.length]), (0, pso ts g.2.2)]) (fun g => PreW ts n g.2.2 ∧ jm ts stat g.1 g.2.1 g.2.2 = jm ts stat ts.length l0 p ∧ (g.2.2.err = 0 → (ts.length : Int) - g.2.2.at_ ≤ g.1) ∧ g.2.1.length + g.1 ≤ l0.length + ts.length) (fun g => g.1) ((ts.length, l0, p)) (⟨h, rfl, by have := h.at_.lo; simp only; omega, Nat.le_refl _⟩) qa qa (fun _ => rfl) (by kernel_rfl) ?_; (conv => whnf))
  rintro ⟨m, l, r⟩ ⟨hP, hj, hk, hl⟩
  simp only at hP hj hk hl
  (repeat' ((conv => whnf); first | refine zA ?_ | refine zO ?_ | refine Ob.auto ?_ | (refine Ob.intro (by (exact ja (by dsimp only; omega) (by dsimp only; omega))) ?_) | refine zC 600 (qo) ?_ | refine zG 600 (fun hg => qo) ?_ | (refine CallY.con (qo) (by rfl) leA ?_) | (refine CallZ.con (fun hg => qo) qc (by rfl) ?_) | refine zE 600 (qo) ?_ | refine zF 600 (fun hg => qo) ?_ | refine zD 600 ?_ | (apply zB <;> intro hb <;> (try simp [-zd] at hb) <;> try (exfalso; omega)) | refine Ob.intro ?_ ?_))
  refine jbr (fun _ => rfl) 600 (.bool false) (by kernel_rfl) qc (fun he => ?_) (fun he => ?_)
  · have he' : r.err = 0 := by simpa using he
    ((conv => whnf); refine zT 600 [0] (qav ht hP.at_ sRc) qa ?_)
    (repeat' ((conv => whnf); first | refine zA ?_ | refine zO ?_ | refine Ob.auto ?_ | refine zD 600 ?_ | (apply zB <;> intro hb <;> (try simp [-zd] at hb) <;> try (exfalso; omega)) | refine Ob.intro ?_ ?_))
    · have e1 : took ts r sRc = r := if_neg (by rw [hb.2]; decide)
      have hQ := hP.pre he'
      have hm : 1 ≤ m := by have := hk he'; have := hP.at_.hi; omega
      obtain ⟨m, rfl⟩ : ∃ m', m = m' + 1 := ⟨m - 1, by omega⟩
      rw [jm, if_pos he', if_neg (by rw [hb.2]; decide)] at hj
      dsimp only
      rw [e1]
      ((conv => whnf); refine qbh (fun _ => rfl) (by kernel_rfl) 600 [.turn [0] [.ptr 0 0] [pso ts r] (stat r).1.av [(0, pso ts (stat r).2)]] (by kernel_rfl) ?_)
      (repeat' ((conv => whnf); first | refine zA ?_ | refine zO ?_ | refine Ob.auto ?_ | refine zI ?_ | refine zD 600 ?_ | (apply zB <;> intro hb <;> (try simp [-zd] at hb) <;> try (exfalso; omega)) | refine Ob.intro ?_ ?_))
      · exact ⟨hs r hQ, by kernel_rfl, leA, qa, by exact qb rfl, by exact qb rfl⟩
      have hst := hr r hP.at_
      have hk' : (stat r).2.err = 0 → (ts.length : Int) - (stat r).2.at_ ≤ m := fun h => by have := hg r hP.at_ h; have := hk he'; omega
      ((conv => whnf); refine ⟨(m, l ++ [(stat r).1], (stat r).2), ⟨hP.step hst he', hj, hk', by simp; omega⟩, ⟨qa, ⟨⟨⟨rfl, rfl, rfl⟩, rfl, by simp, qpk (t := (stat r).1) (by simp) rfl⟩, ⟨rfl, Le.refl _, Le.refl _, Le.refl _, Le.refl _, Le.refl _, Le.of_eq (congrArg (AV.own _ _ _) (by simp)), trivial⟩, qa⟩⟩, ⟨qa, qa⟩, ?_⟩; (first | omega | (dsimp only; omega) | skip))
    · have e1 : took ts r sRc = adv r := if_pos (hb he')
      have e2 : (l, adv r) = jm ts stat ts.length l0 p := by
        rw [← hj]
        cases m with
        | zero => have := hk he'; have := hP.at_.hi; omega
        | succ m => rw [jm, if_pos he', if_pos (hb he')]
      rw [← e2]
      dsimp only
      rw [e1]
      exact ⟨Le.refl _, qa⟩
  · have he' : ¬ (r.err = 0) := by simpa using he
    (repeat' ((conv => whnf); first | refine zA ?_ | refine zO ?_ | refine Ob.auto ?_ | refine zD 600 ?_ | (apply zB <;> intro hb <;> (try simp [-zd] at hb) <;> try (exfalso; omega)) | refine Ob.intro ?_ ?_))
    have e2 : (l, r) = jm ts stat ts.length l0 p := by
      rw [← hj]
      cases m with
      | zero => rfl
      | succ m => rw [jm, if_neg he']
    rw [← e2]
    exact ⟨Le.refl _, qa⟩
end
end Go.Proofs.YtdoaagphhjggbaaGreat
end
