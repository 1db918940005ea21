/- Some texts of the library, one behind the other. -/
import Derived.Test.YtdoaagphhjggbaaGreatQ5
import Derived.Test.YtdoaagphhjggbaaGreatQ8
import Derived.Test.YtdoaagphhjggbaaGreatQ2
section
namespace Go.Proofs.YtdoaagphhjggbaaGreat
namespace Pa
open Go Go.Sx
section
variable {ts : List Lx.Tok} {p q r : Ps}
theorem Step.err0 (h : Step ts p q) (e : q.err = 0) : p.err = 0 := Classical.byContradiction fun hp => by
 have := h.err hp
 subst this
 exact hp e
theorem qvc (h : (bad ts p 11).err = 0) : False := by
 unfold bad at h
 split at h
 ·simp at h
 ·rename_i hp; exact hp h
theorem qhb {s : List UInt8} (h : (must ts p s).err = 0) : sees ts p s = true ∧ (must ts p s).at_ = p.at_ + 1 := by
 unfold must at h ⊢
 split
 ·exact ⟨by assumption, rfl⟩
 ·rename_i hn
  rw [if_neg hn] at h
  exact (qvc h).elim
theorem qre (h : (qe ts p).err = 0) : (qe ts p).at_ = p.at_ + 1 := by
 unfold qe at h ⊢
 split
 ·rfl
 ·rename_i hn
  rw [if_neg hn] at h
  exact (qvc h).elim
theorem joc (h : (numP ts p).err = 0) : (numP ts p).at_ = p.at_ + 1 := by
 unfold numP at h ⊢
 split
 ·rfl
 ·rename_i hn
  rw [if_neg hn] at h
  exact (qvc h).elim
abbrev qhc (ts : List Lx.Tok) (f : Ps → Tr × Ps) : Prop := ∀ p, AtOk ts p → (f p).2.err = 0 → p.at_ < (f p).2.at_
variable (ht : ToksOk ts)
include ht
theorem jod {blk : Ps → Tr × Ps} (hb : Runs ts blk) (a i : Int) : qhc ts (qdn ts blk a i) := fun p h he => by
 unfold qdn at he ⊢
 split
 ·rename_i hs
  rw [if_pos hs] at he
  have h1 := qh ht h hs
  have h2 := qaq ht (h1.ok h)
  have h3 := qaq ht (h2.ok (h1.ok h))
  have h4 := h2.trans (h3.trans (ql ht (h3.ok (h2.ok (h1.ok h))) qt))
  have : p.at_ + 1 ≤ _ := h4.le
  simp only; omega
 ·rename_i hs
  rw [if_neg hs] at he
  split
  ·rename_i hw
   have h1 := qh ht h hw
   have h2 := qbh ht _ (h1.ok h)
   have h4 := h2.trans (ql ht (h2.ok (h1.ok h)) qt)
   have : p.at_ + 1 ≤ _ := h4.le
   simp only; omega
  ·rename_i hw
   rw [if_neg hw] at he
   have h1 := ql ht h je
   have h2 := hb _ (h1.ok h)
   have h3 := h2.trans (qoa ht hb ts.length [(blk (must ts p je)).1] _ (h2.ok (h1.ok h)))
   have h4 := (qhb (h3.err0 he)).2
   have := h3.le
   simp only at this ⊢; omega
theorem jbk (n : Nat) : qhc ts (qd ts (n + 1)) := fun p h he => by
 have hb := qrb ht (qkf ht n)
 have key : ∀ x : Tr × Ps, qd ts (n + 1) p = x → Step ts p x.2 → (∀ q, Step ts p q → p.at_ < q.at_ → Step ts q x.2 → p.at_ < x.2.at_) := fun x _ _ q _ h1 h2 => Int.lt_of_lt_of_le h1 h2.le
 unfold qd at he ⊢
 simp only at he ⊢
 split
 ·rename_i hw
  rw [if_pos hw] at he
  have h1 := qhu ht h qdz
  have := jod ht hb _ _ _ (h1.ok h) he
  have := h1.le
  omega
 rename_i hw
 rw [if_neg hw] at he
 split
 ·have h1 := qh ht h (by assumption)
  have h2 := qaq ht (h1.ok h)
  have h3 := qbh ht _ (h2.ok (h1.ok h))
  have h4 : p.at_ + 1 ≤ _ := (h2.trans (h3.trans (ql ht (h3.ok (h2.ok (h1.ok h))) qt))).le
  simp only; omega
 rename_i hw
 rw [if_neg hw] at he
 split
 ·have h1 := qh ht h (by assumption)
  have h2 := qbh ht _ (h1.ok h)
  have h3 := h2.trans (hb _ (h2.ok (h1.ok h)))
  have h4 : p.at_ + 1 ≤ _ := h3.le
  split
  ·have h5 := qh ht (h3.ok (h1.ok h)) (by assumption)
   have h6 := (h5.trans (hb _ (h5.ok (h3.ok (h1.ok h))))).le
   simp only at h6 ⊢; omega
  ·simp only; omega
 rename_i hw
 rw [if_neg hw] at he
 split
 ·have h1 := qh ht h (by assumption)
  have h2 := qbh ht _ (h1.ok h)
  have h4 : p.at_ + 1 ≤ _ := (h2.trans (hb _ (h2.ok (h1.ok h)))).le
  simp only; omega
 rename_i hw
 rw [if_neg hw] at he
 split
 ·have h1 := qh ht h (by assumption)
  have h4 : p.at_ + 1 ≤ _ := (hb _ (h1.ok h)).le
  simp only; omega
 rename_i hw
 rw [if_neg hw] at he
 split
 ·have h1 := qh ht h (by assumption)
  have h4 : p.at_ + 1 ≤ _ := (ql ht (h1.ok h) qt).le
  simp only; omega
 rename_i hw
 rw [if_neg hw] at he
 split
 ·have h1 := qh ht h (by assumption)
  have h4 : p.at_ + 1 ≤ _ := (ql ht (h1.ok h) qt).le
  simp only; omega
 rename_i hw
 rw [if_neg hw] at he
 have h1 := qaq ht h
 have h2 := ql ht (h1.ok h) sEq
 have h3 := qbh ht _ (h2.ok (h1.ok h))
 have h4 := h2.trans (h3.trans (ql ht (h3.ok (h2.ok (h1.ok h))) qt))
 have h5 := qre (h4.err0 he)
 have h6 := h4.le
 simp only at h6 ⊢; omega
theorem jbl : qhc ts (ju ts) := fun p h he => by
 have h1 := ql ht h kVar
 have h0 := qlw ht p h
 unfold ju at he h0 ⊢
 simp only at he h0 ⊢
 have h2 := qaq ht (h1.ok h)
 have h3 := h2
 have h4 := h3.trans (ql ht (h3.ok (h1.ok h)) kOf)
 have h5 := h4.trans (qbm ht (h4.ok (h1.ok h)))
 have key : ∀ q, Step ts (must ts p kVar) q → (must ts q qt).err = 0 → p.at_ < (must ts q qt).at_ := fun q hq hqe => by
  have h6 := hq.trans (ql ht (hq.ok (h1.ok h)) qt)
  have h7 := (qhb (h6.err0 hqe)).2
  have := h6.le
  omega
 refine key _ ?_ he
 split
 ·have h6 := h5.trans (qh ht (h5.ok (h1.ok h)) (by assumption))
  split
  ·have h7 := h6.trans (qh ht (h6.ok (h1.ok h)) (by assumption))
   exact h7.trans (qbm ht (h7.ok (h1.ok h)))
  ·exact h6.trans (qbm ht (h6.ok (h1.ok h)))
 ·exact h5
theorem jbm (h : AtOk ts p) : Step ts (must ts p kVar) (ju ts p).2 := by
 have h0 := (ql ht h kVar).ok h
 unfold ju
 simp only
 have h3 := qaq ht h0
 have h4 := h3.trans (ql ht (h3.ok h0) kOf)
 have h5 := h4.trans (qbm ht (h4.ok h0))
 split
 ·have h6 := h5.trans (qh ht (h5.ok h0) (by assumption))
  split
  ·have h7 := h6.trans (qh ht (h6.ok h0) (by assumption))
   have h8 := h7.trans (qbm ht (h7.ok h0))
   exact h8.trans (ql ht (h8.ok h0) qt)
  ·have h8 := h6.trans (qbm ht (h6.ok h0))
   exact h8.trans (ql ht (h8.ok h0) qt)
 ·exact h5.trans (ql ht (h5.ok h0) qt)
theorem jbn (h : 0 < ts.length) : qhc ts (sF ts) := by
 show qhc ts (qd ts ts.length)
 obtain ⟨m, hm⟩ : ∃ m, ts.length = m + 1 := ⟨ts.length - 1, by omega⟩
 rw [hm]
 exact jbk ht m
theorem joe : qhc ts (qdo ts) := fun p h he => by
 have h0 := ql ht h qz
 unfold qdo at he ⊢
 simp only at he ⊢
 have h1 := h0.ok h
 have h3 := qaq ht h1
 have h4 : Step ts (must ts p qz) (if sees ts (qe ts (must ts p qz)) qfv = true then (numN ts (adv (qe ts (must ts p qz))), numP ts (adv (qe ts (must ts p qz)))) else (1, qe ts (must ts p qz))).2 := by
  split
  ·have h5 := h3.trans (qh ht (h3.ok h1) (by assumption))
   exact h5.trans (qbm ht (h5.ok h1))
  ·exact h3
 have h5 := h4.trans (ql ht (h4.ok h1) sLc)
 have h6 := h5.trans (qob ht ts.length [] _ (h5.ok h1))
 generalize qbu ts ts.length [] _ = V at he h6 ⊢
 have h7 := h6.trans (qix (h6.ok h1) (qha ht (qiy ht) ts.length V.1 _ (qcs (h6.ok h1)).1))
 have h8 := (qhb (h7.err0 he)).2
 have h9 := h7.le
 omega
theorem jbo : qhc ts (itemF ts) := fun p h he => by
 unfold itemF at he ⊢
 simp only at he ⊢
 split
 ·rename_i hw
  rw [if_pos hw] at he
  exact jbl ht p h he
 rename_i hw
 rw [if_neg hw] at he
 split
 ·rename_i hw
  rw [if_pos hw] at he
  exact joe ht p h he
 rename_i hw
 rw [if_neg hw] at he
 split
 ·have h1 := qh ht h (by assumption)
  have h2 := qaq ht (h1.ok h)
  have h3 := h2.trans (ql ht (h2.ok (h1.ok h)) sLb)
  have h4 := h3.trans (qbm ht (h3.ok (h1.ok h)))
  have h5 := h4.trans (ql ht (h4.ok (h1.ok h)) sRb)
  have h6 := h5.trans (ql ht (h5.ok (h1.ok h)) kOf)
  have h7 := h6.trans (qbm ht (h6.ok (h1.ok h)))
  have h8 := h7.trans (qhu ht (h7.ok (h1.ok h)) qhs)
  have h9 := h8.trans (qhu ht (h8.ok (h1.ok h)) qiv)
  have h10 : p.at_ + 1 ≤ _ := (h9.trans (ql ht (h9.ok (h1.ok h)) qt)).le
  simp only; omega
 rename_i hw
 rw [if_neg hw] at he
 split
 ·have h1 := qh ht h (by assumption)
  have h2 := qbh ht _ (h1.ok h)
  have h4 : p.at_ + 1 ≤ _ := (h2.trans (ql ht (h2.ok (h1.ok h)) qt)).le
  simp only; omega
 rename_i hw
 rw [if_neg hw] at he
 have h1 := ql ht h qlt
 have h2 := ql ht (h1.ok h) qt
 have h3 := (qhb (h2.err0 he)).2
 have := h2.le
 simp only at this ⊢; omega
end
end Pa
end Go.Proofs.YtdoaagphhjggbaaGreat
end
section
namespace Go.Proofs.YtdoaagphhjggbaaGreat
open List renaming getD_eq_getElem?_getD → zd
open Go Go.Sx Go.RowKit Go.St Pa
set_option maxRecDepth 100000
set_option maxHeartbeats 4000000
structure PreW (ts : List Lx.Tok) (n : Nat) (p : Ps) : Prop where
 at_ : AtOk ts p
 deep : 0 ≤ p.deep ∧ p.deep ≤ p.at_ + 2
 ok : p.err = 0 → p.deep ≤ p.at_ + 1
 left : (ts.length : Int) - p.at_ ≤ n
section
variable {ts : List Lx.Tok} {p q : Ps} {n : Nat}
theorem PreW.pre (h : PreW ts n p) (he : p.err = 0) : Pre ts n p := ⟨h.at_, ⟨h.deep.1, h.ok he⟩, h.left⟩
theorem PreW.step (h : PreW ts n p) (k : Step ts p q) (he : p.err = 0) : PreW ts n q :=
 ⟨k.ok h.at_, by have := h.deep; have := k.deep; have := k.le; omega, fun _ => by have := h.ok he; have := k.deep; have := k.le; omega, by have := h.left; have := k.le; omega⟩
abbrev qcd (l : List Tr) : Nat → List AV := fun i => (Tr.cellsL l).getD i []
theorem jbq : ∀ (pre old new : List AV), old.length = new.length → qar (pre ++ old) pre.length new = pre ++ new
 | pre, [], [], _ => rfl
 | pre, x :: old, y :: new, h => by
  have e : (pre ++ x :: old).set pre.length y = (pre ++ [y]) ++ old := by simp
  have := jbq (pre ++ [y]) old new (by simpa using h)
  rw [List.length_append] at this
  rw [qar, e]
  simpa using this
 | pre, [], _ :: _, h => by simp at h
 | pre, _ :: _, [], h => by simp at h
theorem qoc {l : List Tr} {t : Tr} {n : Nat} {g : Nat → List AV} (hn : n = l.length) (hg : (g 0).length = 6) : ∀ j, j < l.length + 1 →
  LeL (if j = n then qar (appF l.length (qcd l) 1 g n) 0 t.cells else appF l.length (qcd l) 1 g j) (qcd (l ++ [t]) j) := by
 intro j hj
 refine LeL.of_eq ?_
 subst hn
 have e : qcd (l ++ [t]) j = ((l ++ [t]).getD j Tr.none).cells := Tr.cellsL_get _ _ (by simp; omega)
 rw [e, qip]
 by_cases h : j < l.length
 ·rw [if_neg (by omega), if_pos h, appF, if_pos h]
  exact Tr.cellsL_get _ _ h
 ·obtain rfl : j = l.length := by omega
  rw [if_pos rfl, if_neg (by omega), if_pos rfl, appF, if_neg (by omega)]
  rw [if_pos (by omega), Nat.sub_self]
  exact jbq [] _ _ hg
theorem jof (ht : ToksOk ts) {stat : Ps → Tr × Ps} (hr : Runs ts stat) (hg : qhc ts stat) (hs : ∀ q, Pre ts n q → RdT ts 145 stat q) (h : PreW ts n p) (k a : Int) :
    Trip Tryz.prog 138 [.ptr 0 0, .ptr 1 0] [pso ts p, .box 106 [iv k, .nils, .nils, .nils, iv a, .nils]] (.tup [])
      [(0, pso ts (jk ts stat ts.length [] p).2), (1, .box 106 [iv k, .nils, .nils, .nils, iv a, .own 2 0 0 (jk ts stat ts.length [] p).1.length]),
       (2, .row [] 106 6 0 (jk ts stat ts.length [] p).1.length (qcd (jk ts stat ts.length [] p).1))] 3 := by
  have h2 := ht.len
  refine zM {} 600 Tryz.func138 (fun c0 rdb mpb => ?_)
  refine qcq 1 5 106 6 rfl rfl ?_
  ((conv => whnf); refine qj (fun _ => rfl) 600 1 (fun _ : Nat × List Tr × Ps => []) (fun g => [(2, .row [] 106 6 0 g.2.1.length (qcd g.2.1)), (1, .box 106 [iv k, .nils, .nils, .nils, iv a, .own 2 0 0 g.2.1.length]), (0, pso ts g.2.2)]) (fun g => PreW ts n g.2.2 ∧ jk ts stat g.1 g.2.1 g.2.2 = jk ts stat ts.length [] p ∧ (g.2.2.err = 0 → (ts.length : Int) - g.2.2.at_ ≤ g.1) ∧ g.2.1.length + g.1 ≤ ts.length) (fun g => g.1) ((ts.length, [], p)) (⟨h, rfl, by have := h.at_.lo; simp only; omega, by simp⟩) qa qa (fun _ => rfl) (by kernel_rfl) ?_; (conv => whnf))
  rintro ⟨m, l, r⟩ ⟨hP, hj, hk, hl⟩
  simp only at hP hj hk hl
  (repeat' ((conv => whnf); first | refine zE 600 (qfx) ?_ | fail))
  refine jbp (fun _ => rfl) 600 (.bool false) (by kernel_rfl) qeo (fun he => ?_) (fun he => ?_)
  · have he' : r.err = 0 := by simpa using he
    ((conv => whnf); refine zT 600 [0] (qav ht hP.at_ sRc) qa ?_)
    (repeat' ((conv => whnf); first | refine Ob.auto ?_ | (apply zB <;> intro hb <;> (try simp [-zd] at hb) <;> try (exfalso; omega))))
    · have e1 : took ts r sRc = r := if_neg (by rw [hb.2]; decide)
      have hQ := hP.pre he'
      have hm : 1 ≤ m := by have := hk he'; have := hP.at_.hi; omega
      obtain ⟨m, rfl⟩ : ∃ m', m = m' + 1 := ⟨m - 1, by omega⟩
      rw [jk, if_pos he', if_neg (by rw [hb.2]; decide)] at hj
      dsimp only
      rw [e1]
      ((conv => whnf); refine qax (fun _ => rfl) (by kernel_rfl) 600 [.turn [0] [.ptr 0 0] [pso ts r] (stat r).1.av [(0, pso ts (stat r).2)]] (by kernel_rfl) ?_)
      (repeat' ((conv => whnf); first | refine Ob.auto ?_ | refine Ob.intro ?_ ?_ | fail))
      · exact ⟨hs r hQ, by kernel_rfl, leA, qa, by exact qb rfl, by exact qb rfl⟩
      have hst := hr r hP.at_
      have hk' : (stat r).2.err = 0 → (ts.length : Int) - (stat r).2.at_ ≤ m := fun h => by have := hg r hP.at_ h; have := hk he'; omega
      ((conv => whnf); refine ⟨(m, l ++ [(stat r).1], (stat r).2), ⟨hP.step hst he', hj, hk', by simp; omega⟩, ⟨qa, ⟨⟨⟨rfl, rfl, rfl⟩, rfl, by simp, qoc (t := (stat r).1) (by simp) rfl⟩, ⟨rfl, Le.refl _, Le.refl _, Le.refl _, Le.refl _, Le.refl _, Le.of_eq (congrArg (AV.own _ _ _) (by simp)), trivial⟩, qa⟩⟩, ⟨qa, qa⟩, ?_⟩; (first | omega | (dsimp only; omega) | skip))
    · have e1 : took ts r sRc = adv r := if_pos (hb he')
      have e2 : (l, adv r) = jk ts stat ts.length [] p := by
        rw [← hj]
        cases m with
        | zero => have := hk he'; have := hP.at_.hi; omega
        | succ m => rw [jk, if_pos he', if_pos (hb he')]
      rw [← e2]
      dsimp only
      rw [e1]
      exact ⟨Le.refl _, qa⟩
  · have he' : ¬ (r.err = 0) := by simpa using he
    (repeat' ((conv => whnf); first | refine Ob.auto ?_ | (apply zB <;> intro hb <;> (try simp [-zd] at hb) <;> try (exfalso; omega))))
    have e2 : (l, r) = jk ts stat ts.length [] p := by
      rw [← hj]
      cases m with
      | zero => rfl
      | succ m => rw [jk, if_neg he']
    rw [← e2]
    exact ⟨Le.refl _, qa⟩
theorem jbr (ht : ToksOk ts) {stat : Ps → Tr × Ps} (hr : Runs ts stat) (hg : qhc ts stat) (hs : ∀ q, Pre ts n q → RdT ts 145 stat q) (h : PreW ts n p) (k a : Int) (w : List (List UInt8)) (ns : List Int) (l0 : List Tr) (hl0 : l0.length ≤ 10000) :
    Trip Tryz.prog 138 [.ptr 0 0, .ptr 1 0] [pso ts p, .box 106 [iv k, strs w, ints ns, .nils, iv a, .own 2 0 0 l0.length], .row [] 106 6 0 l0.length (qcd l0)] (.tup [])
      [(0, pso ts (jk ts stat ts.length l0 p).2), (1, .box 106 [iv k, strs w, ints ns, .nils, iv a, .own 2 0 0 (jk ts stat ts.length l0 p).1.length]),
       (2, .row [] 106 6 0 (jk ts stat ts.length l0 p).1.length (qcd (jk ts stat ts.length l0 p).1))] 3 := by
  have h2 := ht.len
  refine zM {} 600 Tryz.func138 (fun c0 rdb mpb => ?_)
  ((conv => whnf); refine qj (fun _ => rfl) 600 1 (fun _ : Nat × List Tr × Ps => []) (fun g => [(2, .row [] 106 6 0 g.2.1.length (qcd g.2.1)), (1, .box 106 [iv k, strs w, ints ns, .nils, iv a, .own 2 0 0 g.2.1.length]), (0, pso ts g.2.2)]) (fun g => PreW ts n g.2.2 ∧ jk ts stat g.1 g.2.1 g.2.2 = jk ts stat ts.length l0 p ∧ (g.2.2.err = 0 → (ts.length : Int) - g.2.2.at_ ≤ g.1) ∧ g.2.1.length + g.1 ≤ l0.length + ts.length) (fun g => g.1) ((ts.length, l0, p)) (⟨h, rfl, by have := h.at_.lo; simp only; omega, Nat.le_refl _⟩) qa qa (fun _ => rfl) (by kernel_rfl) ?_; (conv => whnf))
  rintro ⟨m, l, r⟩ ⟨hP, hj, hk, hl⟩
  simp only at hP hj hk hl
  (repeat' ((conv => whnf); first | refine zE 600 (qfx) ?_ | fail))
  refine jbp (fun _ => rfl) 600 (.bool false) (by kernel_rfl) qeo (fun he => ?_) (fun he => ?_)
  · have he' : r.err = 0 := by simpa using he
    ((conv => whnf); refine zT 600 [0] (qav ht hP.at_ sRc) qa ?_)
    (repeat' ((conv => whnf); first | refine Ob.auto ?_ | (apply zB <;> intro hb <;> (try simp [-zd] at hb) <;> try (exfalso; omega))))
    · have e1 : took ts r sRc = r := if_neg (by rw [hb.2]; decide)
      have hQ := hP.pre he'
      have hm : 1 ≤ m := by have := hk he'; have := hP.at_.hi; omega
      obtain ⟨m, rfl⟩ : ∃ m', m = m' + 1 := ⟨m - 1, by omega⟩
      rw [jk, if_pos he', if_neg (by rw [hb.2]; decide)] at hj
      dsimp only
      rw [e1]
      ((conv => whnf); refine qax (fun _ => rfl) (by kernel_rfl) 600 [.turn [0] [.ptr 0 0] [pso ts r] (stat r).1.av [(0, pso ts (stat r).2)]] (by kernel_rfl) ?_)
      (repeat' ((conv => whnf); first | refine Ob.auto ?_ | refine Ob.intro ?_ ?_ | fail))
      · exact ⟨hs r hQ, by kernel_rfl, leA, qa, by exact qb rfl, by exact qb rfl⟩
      have hst := hr r hP.at_
      have hk' : (stat r).2.err = 0 → (ts.length : Int) - (stat r).2.at_ ≤ m := fun h => by have := hg r hP.at_ h; have := hk he'; omega
      ((conv => whnf); refine ⟨(m, l ++ [(stat r).1], (stat r).2), ⟨hP.step hst he', hj, hk', by simp; omega⟩, ⟨qa, ⟨⟨⟨rfl, rfl, rfl⟩, rfl, by simp, qoc (t := (stat r).1) (by simp) rfl⟩, ⟨rfl, Le.refl _, Le.refl _, Le.refl _, Le.refl _, Le.refl _, Le.of_eq (congrArg (AV.own _ _ _) (by simp)), trivial⟩, qa⟩⟩, ⟨qa, qa⟩, ?_⟩; (first | omega | (dsimp only; omega) | skip))
    · have e1 : took ts r sRc = adv r := if_pos (hb he')
      have e2 : (l, adv r) = jk ts stat ts.length l0 p := by
        rw [← hj]
        cases m with
        | zero => have := hk he'; have := hP.at_.hi; omega
        | succ m => rw [jk, if_pos he', if_pos (hb he')]
      rw [← e2]
      dsimp only
      rw [e1]
      exact ⟨Le.refl _, qa⟩
  · have he' : ¬ (r.err = 0) := by simpa using he
    (repeat' ((conv => whnf); first | refine Ob.auto ?_ | (apply zB <;> intro hb <;> (try simp [-zd] at hb) <;> try (exfalso; omega))))
    have e2 : (l, r) = jk ts stat ts.length l0 p := by
      rw [← hj]
      cases m with
      | zero => rfl
      | succ m => rw [jk, if_neg he']
    rw [← e2]
    exact ⟨Le.refl _, qa⟩
end
section
variable {ts : List Lx.Tok} {p q : Ps} {n : Nat}
theorem Pre.inW (h : Pre ts n p) (k : Step ts p q) (hg : q.err = 0 → p.at_ < q.at_) : PreW ts n (inP ts q) := by
 obtain ⟨i1, i2, i3, i4⟩ := qcs (k.ok h.at_)
 have h1 := h.deep
 have h2 := h.left
 have h3 := k.le
 have h4 := k.deep
 refine ⟨i1, by omega, fun he => ?_, by omega⟩
 have : q.err = 0 := Classical.byContradiction fun hn => by have := (i4 hn).1; omega
 have := hg this
 omega
theorem qak {l : List Tr} {f : Nat → List AV} (h : ∀ i, i < l.length → f i = qcd l i) : Le (.slc 6 l.length f) (qlv l) := Le.slc rfl h
theorem jog (ht : ToksOk ts) {stat : Ps → Tr × Ps} (hr : Runs ts stat) (hg : qhc ts stat) (hs : ∀ q, Pre ts n q → RdT ts 145 stat q) (h : Pre ts n p) : RdT ts 149 (qu ts stat) p := by
 have h2 := ht.len
 have h3 := h.deep
 have h4 := h.at_.hi
 have hst := ql ht h.at_ sLc
 have hq := h.step hst
 have hqd := hst.deep
 have hw := h.inW hst (fun he => by have := (qhb he).2; omega)
 have hso := qha ht hr ts.length [] _ hw.at_
 have hd := hso.deep
 have hi := (qcs hq.at_).2.2.1
 refine zM {} 600 Tryz.func149 (fun c0 rdb mpb => ?_)
 (repeat' ((conv => whnf); first | refine zE 600 (qki h.at_ _) ?_ | fail))
 ((conv => whnf); refine zT 600 [0] (qay ht h.at_ sLc) qa ?_)
 ((conv => whnf); refine zT 600 [0] (qlx hq.at_ (by omega)) qa ?_)
 ((conv => whnf); refine zT 600 [0, 2] (jof ht hr hg hs hw 16 (tk ts p).pos) qa ?_)
 (repeat' ((conv => whnf); first | refine Ob.auto ?_ | fail))
 (refine ⟨Le.agg ⟨Le.refl _, ?_, ?_, Le.refl _, Le.refl _, ?_, trivial⟩, qa⟩ <;> first | exact Le.nils _ _ | exact Le.refl _ | exact jn rfl | exact jv rfl | exact qah rfl | exact qaf rfl rfl | exact qag rfl rfl | exact qai rfl rfl | exact qaj rfl rfl rfl | exact qak (fun _ _ => rfl))
theorem Pre.full (h : Pre ts n p) : Pre ts ts.length p := ⟨h.at_, h.deep, by have := h.at_.lo; omega⟩
theorem jbs (ht : ToksOk ts) (h : Pre ts n p) (hs : sees ts p qdl = true) (i a : Int) :
    Trip Tryz.prog 148 [.ptr 0 0, .ptr 1 0] [pso ts p, .box 106 [iv 6, .nils, ints [i], .nils, iv a, .nils]] (.tup [])
      [(0, pso ts (must ts (qe ts (qe ts (adv p))) qt)), (1, .box 106 [iv 8, .own 2 0 0 2, ints [i], .nils, iv a, .nils]),
       (2, .row [] 9 1 0 2 (encL (fun s => [.str s]) [] [qae ts (adv p), qae ts (qe ts (adv p))]))] 3 := by
  have h1 := h.step (qh ht h.at_ hs)
  have e1 : took ts p qdl = adv p := if_pos hs
  refine zM {} 600 Tryz.func148 (fun c0 rdb mpb => ?_)
  ((conv => whnf); refine zT 600 [0] (qav ht h.at_ qdl) qa ?_)
  rw [hs, e1]
  (repeat' ((conv => whnf); first | (apply zB <;> intro hb <;> (try simp [-zd] at hb) <;> try (exfalso; omega))))
  have h2 := h1.step (qaq ht h1.at_)
  have h3 := h2.step (qaq ht h2.at_)
  (repeat' ((conv => whnf); first | (refine qbd (fun _ => rfl) (by kernel_rfl) 600 ?_) | fail))
  ((conv => whnf); refine CallY.trip [0] (qhv ht h1.at_) (by kernel_rfl) leA qa (by exact qb rfl) (by exact qb rfl) ?_)
  (repeat' ((conv => whnf); first | refine Ob.auto ?_ | fail))
  ((conv => whnf); refine AltG.far 13 [1] (by kernel_rfl) farA (EndG.go ?_))
  (repeat' ((conv => whnf); first | (refine qbd (fun _ => rfl) (by kernel_rfl) 600 ?_) | fail))
  ((conv => whnf); refine CallY.trip [0] (qhv ht h2.at_) (by kernel_rfl) leA qa (by exact qb rfl) (by exact qb rfl) ?_)
  (repeat' ((conv => whnf); first | refine Ob.auto ?_ | fail))
  ((conv => whnf); refine AltG.far 13 [1] (by kernel_rfl) farA (EndG.go ?_))
  ((conv => whnf); refine zT 600 [0] (qay ht h3.at_ qt) qa ?_)
  (repeat' ((conv => whnf); first | refine Ob.auto ?_ | fail))
  exact ⟨Le.refl _, SoLe.refl _, ⟨rfl, Le.refl _, Le.refl _, Le.refl _, Le.refl _, Le.refl _, Le.refl _, trivial⟩, ⟨⟨rfl, rfl, rfl⟩, rfl, rfl, fun j hj => by match j, hj with | 0, _ => exact LeL.refl _ | 1, _ => exact LeL.refl _⟩, trivial⟩
theorem jbt (ht : ToksOk ts) (h : Pre ts n p) (hr : sees ts p qdl = false) (hs : sees ts p qfb = true) (i a : Int) :
    Trip Tryz.prog 148 [.ptr 0 0, .ptr 1 0] [pso ts p, .box 106 [iv 6, .nils, ints [i], .nils, iv a, .nils]] (.tup [])
      [(0, pso ts (must ts (eF ts (adv p)).2 qt)), (1, .box 106 [iv 9, .nils, ints [i], .nils, iv a, .own 10 0 0 1]),
       (10, .row [] 106 6 0 1 (qcd [(eF ts (adv p)).1]))] 11 := by
  have h1 := h.step (qh ht h.at_ hs)
  have e0 : took ts p qdl = p := if_neg (by rw [hr]; decide)
  have e1 : took ts p qfb = adv p := if_pos hs
  refine zM {} 600 Tryz.func148 (fun c0 rdb mpb => ?_)
  ((conv => whnf); refine zT 600 [0] (qav ht h.at_ qdl) qa ?_)
  rw [hr, e0]
  (repeat' ((conv => whnf); first | (apply zB <;> intro hb <;> (try simp [-zd] at hb) <;> try (exfalso; omega))))
  ((conv => whnf); refine zT 600 [0] (qav ht h.at_ qfb) qa ?_)
  rw [hs, e1]
  (repeat' ((conv => whnf); first | (apply zB <;> intro hb <;> (try simp [-zd] at hb) <;> try (exfalso; omega))))
  have h2 := h1.step (qbh ht _ h1.at_)
  ((conv => whnf); refine qax (fun _ => rfl) (by kernel_rfl) 600 [.turn [0] [.ptr 0 0] [pso ts (adv p)] (eF ts (adv p)).1.av [(0, pso ts (eF ts (adv p)).2)]] (by kernel_rfl) ?_)
  (repeat' ((conv => whnf); first | refine Ob.auto ?_ | refine Ob.intro ?_ ?_ | fail))
  · exact ⟨e_rd ht h1.full, by kernel_rfl, leA, qa, by exact qb rfl, by exact qb rfl⟩
  ((conv => whnf); refine zT 600 [0] (qay ht h2.at_ qt) qa ?_)
  (repeat' ((conv => whnf); first | refine Ob.auto ?_ | fail))
  exact ⟨Le.refl _, SoLe.refl _, ⟨rfl, Le.refl _, Le.refl _, Le.refl _, Le.refl _, Le.refl _, Le.refl _, trivial⟩, ⟨⟨rfl, rfl, rfl⟩, rfl, rfl, fun j hj => by match j, hj with | 0, _ => exact LeL.of_eq ((show _ = (eF ts (adv p)).1.cells from rfl).trans (Tr.cellsL_get [(eF ts (adv p)).1] 0 (Nat.zero_lt_succ _)).symm)⟩, trivial⟩
theorem jbu (ht : ToksOk ts) {blk : Ps → Tr × Ps} (hB : Runs ts blk) (hbt : ∀ q, Pre ts n q → RdT ts 149 blk q) {m : Nat} (h : Pre ts m p) (hq : Pre ts n (must ts p je)) (hr : sees ts p qdl = false) (hw : sees ts p qfb = false) (i a : Int) :
    Trip Tryz.prog 148 [.ptr 0 0, .ptr 1 0] [pso ts p, .box 106 [iv 6, .nils, ints [i], .nils, iv a, .nils]] (.tup [])
      [(0, pso ts (orL ts blk ts.length [(blk (must ts p je)).1] (blk (must ts p je)).2).2), (1, .box 106 [iv 10, .nils, ints [i], .nils, iv a, .own 10 0 0 (orL ts blk ts.length [(blk (must ts p je)).1] (blk (must ts p je)).2).1.length]),
       (10, .row [] 106 6 0 (orL ts blk ts.length [(blk (must ts p je)).1] (blk (must ts p je)).2).1.length (qcd (orL ts blk ts.length [(blk (must ts p je)).1] (blk (must ts p je)).2).1))] 11 := by
  have e0 : took ts p qdl = p := if_neg (by rw [hr]; decide)
  have e1 : took ts p qfb = p := if_neg (by rw [hw]; decide)
  refine zM {} 600 Tryz.func148 (fun c0 rdb mpb => ?_)
  ((conv => whnf); refine zT 600 [0] (qav ht h.at_ qdl) qa ?_)
  rw [hr, e0]
  (repeat' ((conv => whnf); first | (apply zB <;> intro hb <;> (try simp [-zd] at hb) <;> try (exfalso; omega))))
  ((conv => whnf); refine zT 600 [0] (qav ht h.at_ qfb) qa ?_)
  rw [hw, e1]
  (repeat' ((conv => whnf); first | (apply zB <;> intro hb <;> (try simp [-zd] at hb) <;> try (exfalso; omega))))
  ((conv => whnf); refine zT 600 [0] (qay ht h.at_ je) qa ?_)
  have hqb := hq.step (hB _ hq.at_)
  ((conv => whnf); refine qax (fun _ => rfl) (by kernel_rfl) 600 [.turn [0] [.ptr 0 0] [pso ts (must ts p je)] (blk (must ts p je)).1.av [(0, pso ts (blk (must ts p je)).2)]] (by kernel_rfl) ?_)
  (repeat' ((conv => whnf); first | refine Ob.auto ?_ | refine Ob.intro ?_ ?_ | fail))
  · exact ⟨hbt _ hq, by kernel_rfl, leA, qa, by exact qb rfl, by exact qb rfl⟩
  ((conv => whnf); refine qj (fun _ => rfl) 600 1 (fun _ : Nat × List Tr × Ps => []) (fun g => [(10, .row [] 106 6 0 g.2.1.length (qcd g.2.1)), (1, .box 106 [iv 10, .nils, ints [i], .nils, iv a, .own 10 0 0 g.2.1.length]), (0, pso ts g.2.2)]) (fun g => Pre ts n g.2.2 ∧ orL ts blk g.1 g.2.1 g.2.2 = orL ts blk ts.length [(blk (must ts p je)).1] (blk (must ts p je)).2 ∧ (ts.length : Int) - g.2.2.at_ ≤ g.1 ∧ g.2.1.length + g.1 ≤ 1 + ts.length) (fun g => g.1) ((ts.length, [(blk (must ts p je)).1], (blk (must ts p je)).2)) (⟨hqb, rfl, by have := hqb.at_.lo; simp only; omega, by simp⟩) qa ⟨⟨⟨rfl, rfl, rfl⟩, rfl, rfl, fun j hj => by match j, hj with | 0, _ => exact LeL.of_eq ((show _ = (blk (must ts p je)).1.cells from rfl).trans (Tr.cellsL_get [(blk (must ts p je)).1] 0 (Nat.zero_lt_succ _)).symm)⟩, ⟨rfl, Le.refl _, Le.refl _, Le.refl _, Le.refl _, Le.refl _, Le.refl _, trivial⟩, SoLe.refl _, trivial⟩ (fun _ => rfl) (by kernel_rfl) ?_; (conv => whnf))
  rintro ⟨m, l, r⟩ ⟨hP, hj, hk, hl⟩
  simp only at hP hj hk hl
  have h8 := ht.len
  ((conv => whnf); refine zT 600 [0] (qav ht hP.at_ kOr) qa ?_)
  (repeat' ((conv => whnf); first | refine Ob.auto ?_ | (apply zB <;> intro hb <;> (try simp [-zd] at hb) <;> try (exfalso; omega))))
  · have e2 : took ts r kOr = adv r := if_pos (by assumption)
    have hsO : sees ts r kOr = true := by assumption
    have hQ := hP.step (qh ht hP.at_ hsO)
    have hm : 1 ≤ m := by have := hP.at_.hi; omega
    obtain ⟨m, rfl⟩ : ∃ m', m = m' + 1 := ⟨m - 1, by omega⟩
    rw [orL, if_pos hsO] at hj
    dsimp only
    rw [e2]
    ((conv => whnf); refine qax (fun _ => rfl) (by kernel_rfl) 600 [.turn [0] [.ptr 0 0] [pso ts (adv r)] (blk (adv r)).1.av [(0, pso ts (blk (adv r)).2)]] (by kernel_rfl) ?_)
    (repeat' ((conv => whnf); first | refine Ob.auto ?_ | refine Ob.intro ?_ ?_ | fail))
    · exact ⟨hbt _ hQ, by kernel_rfl, leA, qa, by exact qb rfl, by exact qb rfl⟩
    have hst := hB _ hQ.at_
    have hle : r.at_ + 1 ≤ (blk (adv r)).2.at_ := hst.le
    ((conv => whnf); refine ⟨(m, l ++ [(blk (adv r)).1], (blk (adv r)).2), ⟨hQ.step hst, hj, by simp only; omega, by simp; omega⟩, ⟨qa, ⟨⟨⟨rfl, rfl, rfl⟩, rfl, by simp, qoc (t := (blk (adv r)).1) (by simp) rfl⟩, ⟨rfl, Le.refl _, Le.refl _, Le.refl _, Le.refl _, Le.refl _, Le.of_eq (congrArg (AV.own _ _ _) (by simp)), trivial⟩, qa⟩⟩, ⟨qa, qa⟩, ?_⟩; (first | omega | (dsimp only; omega) | skip))
  · have hsO : sees ts r kOr = false := by assumption
    have e2 : took ts r kOr = r := if_neg (by rw [hsO]; decide)
    have e3 : (l, r) = orL ts blk ts.length [(blk (must ts p je)).1] (blk (must ts p je)).2 := by
      rw [← hj]
      cases m with
      | zero => rfl
      | succ m => rw [orL, if_neg (by rw [hsO]; decide)]
    rw [← e3]
    dsimp only
    rw [e2]
    exact ⟨Le.refl _, qa⟩
end
end Go.Proofs.YtdoaagphhjggbaaGreat
end
