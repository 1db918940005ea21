/- Contracts of the document's parser: expressions. -/
import Derived.Test.YtdoaagphhjggbaaGreatDoorQPa1
import Derived.Test.YtdoaagphhjggbaaGreatDoorQ2
namespace Go.Proofs.YtdoaagphhjggbaaGreatDoor
open List renaming getD_eq_getElem?_getD → zd
open Go Go.Sx Go.RowKit Go.St Pa
set_option maxRecDepth 100000
set_option maxHeartbeats 4000000
structure Pre (ts : List Lx.Tok) (n : Nat) (p : Ps) : Prop where
 at_ : AtOk ts p
 deep : 0 ≤ p.deep ∧ p.deep ≤ p.at_ + 1
 left : (ts.length : Int) - p.at_ ≤ n
section
variable {ts : List Lx.Tok} {p q : Ps} {n : Nat}
theorem Pre.step (h : Pre ts n p) (k : Step ts p q) : Pre ts n q :=
 ⟨k.ok h.at_, by have := h.deep; have := k.deep; have := k.le; omega, by have := h.left; have := k.le; omega⟩
abbrev RdT (ts : List Lx.Tok) (f : FuncId) (F : Ps → Tr × Ps) (p : Ps) : Prop := Trip Tryz.prog f [.ptr 0 0] [pso ts p] (F p).1.av [(0, pso ts (F p).2)] 1
theorem jlj (a b : Tr) : Le (.slc 6 2 (chop 6 (a.cells ++ b.cells))) (qjz [a, b]) := Le.slc rfl (fun i hi => by
 match i, hi with
 | 0, _ => exact (Tr.cellsL_get [a, b] 0 (Nat.zero_lt_succ _)).symm
 | 1, _ => exact (Tr.cellsL_get [a, b] 1 (Nat.lt_succ_self _)).symm)
theorem qgn (sg : Int) (a b : Tr) : Con Tryz.prog 96 [iv sg, a.av, b.av] (binT sg a b).av := by
 refine zK {} 300 Tryz.func96 (fun c0 rdb => ?_)
 (repeat' ((conv => whnf); first | refine Ob.auto ?_ | fail))
 refine Le.agg ⟨Le.refl _, Le.nils _ _, Le.slc rfl (fun i hi => ?_), Le.refl _, Le.refl _, jlj a b, trivial⟩
 obtain rfl : i = 0 := by omega
 rfl
theorem jlk (ht : ToksOk ts) {part : Ps → Tr × Ps} (hr : Runs ts part) (hp : ∀ q, Pre ts n q → RdT ts 115 part q) : ∀ q, Pre ts n q → RdT ts 114 (qbr ts part) q := by
 intro p h
 have h2 := ht.len
 have hps := hp
 have hrs := hr
 have hs := hrs p h.at_
 have hq := h.step hs
 refine zM {} 300 Tryz.func114 (fun c0 rdb mpb => ?_)
 ((conv => whnf); refine zT 300 [0] (hps p h) qa ?_)
 ((conv => whnf); refine qo (fun _ => rfl) 300 1 (fun _ : Nat × Tr × Ps => []) (fun g => [(2, .box 74 g.2.1.cells), (0, pso ts g.2.2)]) (fun g => Pre ts n g.2.2 ∧ qaf (part) (qdc ts) (qhk ts) g.1 g.2.1 g.2.2 = qbr ts part p ∧ (ts.length : Int) - g.2.2.at_ ≤ g.1) (fun g => ((ts.length : Int) - g.2.2.at_).toNat) ((ts.length, (part p).1, (part p).2)) (⟨hq, rfl, by have := hq.at_.lo; simp only; omega⟩) qa qa (fun _ => rfl) (by kernel_rfl) ?_; (conv => whnf))
 rintro ⟨k, a, r⟩ ⟨hP, hj, hk⟩
 simp only at hP hj hk
 have h0 := hP.at_.lo
 have h1 := hP.at_.hi
 obtain ⟨k, rfl⟩ : ∃ k', k = k' + 1 := ⟨k - 1, by omega⟩
 (repeat' ((conv => whnf); first | refine Ob.auto ?_ | (refine Ob.intro (by (exact qcn (by dsimp only; omega) (by dsimp only; omega))) ?_) | refine zE 300 (qdx hP.at_ _) ?_ | refine zF 300 (fun hg => qdx hP.at_ _) ?_ | (apply zB <;> intro hb <;> (try simp [-zd] at hb) <;> try (exfalso; omega))))
 ·have hc : (qdc ts) r = true := by simp [qdc, sumC, *]
  have hsg : (qhk ts) r = 6 := by unfold qhk; rw [if_pos hb]
  have hst := qf ht hP.at_ hb
  have hP' := hP.step hst
  rw [qaf, if_pos hc, hsg] at hj
  have hle := (hrs _ hP'.at_).le
  have hle' : r.at_ + 1 ≤ (part (adv r)).2.at_ := hle
  (repeat' ((conv => whnf); first | (refine qap (fun _ => rfl) (by kernel_rfl) 300 ?_) | fail))
  ((conv => whnf); refine CallY.trip [0] (hps (adv r) hP') (by kernel_rfl) leA qa (by exact qb rfl) (by exact qb rfl) ?_)
  (conv => whnf)
  refine CallY.con (qgn 6 a (part (adv r)).1) (by rfl) leA ?_
  ((conv => whnf); refine AltG.far 5 [2] (by kernel_rfl) farA (EndG.go ?_))
  ((conv => whnf); refine ⟨(k, binT 6 a (part (adv r)).1, (part (adv r)).2), ⟨hP'.step (hrs _ hP'.at_), hj, by dsimp only; omega⟩, ⟨qa, qa⟩, ⟨qa, qa⟩, ?_⟩; (first | omega | (dsimp only; omega) | skip))
 ·have hc : (qdc ts) r = true := by simp [qdc, sumC, *]
  have hsg : (qhk ts) r = 7 := by unfold qhk; rw [if_neg (by simp [*]), if_pos hb]
  have hst := qf ht hP.at_ hb
  have hP' := hP.step hst
  rw [qaf, if_pos hc, hsg] at hj
  have hle := (hrs _ hP'.at_).le
  have hle' : r.at_ + 1 ≤ (part (adv r)).2.at_ := hle
  (repeat' ((conv => whnf); first | (refine qap (fun _ => rfl) (by kernel_rfl) 300 ?_) | fail))
  ((conv => whnf); refine CallY.trip [0] (hps (adv r) hP') (by kernel_rfl) leA qa (by exact qb rfl) (by exact qb rfl) ?_)
  (conv => whnf)
  refine CallY.con (qgn 7 a (part (adv r)).1) (by rfl) leA ?_
  ((conv => whnf); refine AltG.far 5 [2] (by kernel_rfl) farA (EndG.go ?_))
  ((conv => whnf); refine ⟨(k, binT 7 a (part (adv r)).1, (part (adv r)).2), ⟨hP'.step (hrs _ hP'.at_), hj, by dsimp only; omega⟩, ⟨qa, qa⟩, ⟨qa, qa⟩, ?_⟩; (first | omega | (dsimp only; omega) | skip))
 ·have hpct : sees ts r sPct = true := by simp_all
  have hc : qdc ts r = true := by unfold qdc; rw [hpct]; simp
  have hsg : (qhk ts) r = 8 := by unfold qhk; rw [if_neg (by simp [*]), if_neg (by simp [*])]
  have hst := qf ht hP.at_ hpct
  have hP' := hP.step hst
  rw [qaf, if_pos hc, hsg] at hj
  have hle := (hrs _ hP'.at_).le
  have hle' : r.at_ + 1 ≤ (part (adv r)).2.at_ := hle
  (repeat' ((conv => whnf); first | (refine qap (fun _ => rfl) (by kernel_rfl) 300 ?_) | fail))
  ((conv => whnf); refine CallY.trip [0] (hps (adv r) hP') (by kernel_rfl) leA qa (by exact qb rfl) (by exact qb rfl) ?_)
  (conv => whnf)
  refine CallY.con (qgn 8 a (part (adv r)).1) (by rfl) leA ?_
  ((conv => whnf); refine AltG.far 5 [2] (by kernel_rfl) farA (EndG.go ?_))
  ((conv => whnf); refine ⟨(k, binT 8 a (part (adv r)).1, (part (adv r)).2), ⟨hP'.step (hrs _ hP'.at_), hj, by dsimp only; omega⟩, ⟨qa, qa⟩, ⟨qa, qa⟩, ?_⟩; (first | omega | (dsimp only; omega) | skip))
 ·have hc : ¬ ((qdc ts) r = true) := by simp [qdc, sumC, hb]
  rw [qaf, if_neg hc] at hj
  rw [← hj]
  exact ⟨Le.refl _, qa⟩
theorem jll (ht : ToksOk ts) {part : Ps → Tr × Ps} (hr : Runs ts part) (hp : ∀ q, Pre ts n q → RdT ts 115 part q) : ∀ q, Pre ts n q → RdT ts 113 (sumF ts part) q := by
 intro p h
 have h2 := ht.len
 have hps := jlk ht hr hp
 have hrs := qmh ht hr
 have hs := hrs p h.at_
 have hq := h.step hs
 refine zM {} 300 Tryz.func113 (fun c0 rdb mpb => ?_)
 ((conv => whnf); refine zT 300 [0] (hps p h) qa ?_)
 ((conv => whnf); refine qo (fun _ => rfl) 300 1 (fun _ : Nat × Tr × Ps => []) (fun g => [(2, .box 74 g.2.1.cells), (0, pso ts g.2.2)]) (fun g => Pre ts n g.2.2 ∧ qaf (qbr ts part) (sumC ts) (sumS ts) g.1 g.2.1 g.2.2 = sumF ts part p ∧ (ts.length : Int) - g.2.2.at_ ≤ g.1) (fun g => ((ts.length : Int) - g.2.2.at_).toNat) ((ts.length, (qbr ts part p).1, (qbr ts part p).2)) (⟨hq, rfl, by have := hq.at_.lo; simp only; omega⟩) qa qa (fun _ => rfl) (by kernel_rfl) ?_; (conv => whnf))
 rintro ⟨k, a, r⟩ ⟨hP, hj, hk⟩
 simp only at hP hj hk
 have h0 := hP.at_.lo
 have h1 := hP.at_.hi
 obtain ⟨k, rfl⟩ : ∃ k', k = k' + 1 := ⟨k - 1, by omega⟩
 (repeat' ((conv => whnf); first | refine Ob.auto ?_ | (refine Ob.intro (by (exact qcn (by dsimp only; omega) (by dsimp only; omega))) ?_) | refine zE 300 (qdx hP.at_ _) ?_ | refine zF 300 (fun hg => qdx hP.at_ _) ?_ | (apply zB <;> intro hb <;> (try simp [-zd] at hb) <;> try (exfalso; omega))))
 ·have hc : (sumC ts) r = true := by simp [qdc, sumC, *]
  have hsg : (sumS ts) r = 4 := by unfold sumS; rw [if_pos hb]
  have hst := qf ht hP.at_ hb
  have hP' := hP.step hst
  rw [qaf, if_pos hc, hsg] at hj
  have hle := (hrs _ hP'.at_).le
  have hle' : r.at_ + 1 ≤ (qbr ts part (adv r)).2.at_ := hle
  (repeat' ((conv => whnf); first | (refine qap (fun _ => rfl) (by kernel_rfl) 300 ?_) | fail))
  ((conv => whnf); refine CallY.trip [0] (hps (adv r) hP') (by kernel_rfl) leA qa (by exact qb rfl) (by exact qb rfl) ?_)
  (conv => whnf)
  refine CallY.con (qgn 4 a (qbr ts part (adv r)).1) (by rfl) leA ?_
  ((conv => whnf); refine AltG.far 5 [2] (by kernel_rfl) farA (EndG.go ?_))
  ((conv => whnf); refine ⟨(k, binT 4 a (qbr ts part (adv r)).1, (qbr ts part (adv r)).2), ⟨hP'.step (hrs _ hP'.at_), hj, by dsimp only; omega⟩, ⟨qa, qa⟩, ⟨qa, qa⟩, ?_⟩; (first | omega | (dsimp only; omega) | skip))
 ·have hmin : sees ts r qdw = true := by simp_all
  have hc : sumC ts r = true := by unfold sumC; rw [hmin]; simp
  have hsg : (sumS ts) r = 5 := by unfold sumS; rw [if_neg (by simp [*])]
  have hst := qf ht hP.at_ hmin
  have hP' := hP.step hst
  rw [qaf, if_pos hc, hsg] at hj
  have hle := (hrs _ hP'.at_).le
  have hle' : r.at_ + 1 ≤ (qbr ts part (adv r)).2.at_ := hle
  (repeat' ((conv => whnf); first | (refine qap (fun _ => rfl) (by kernel_rfl) 300 ?_) | fail))
  ((conv => whnf); refine CallY.trip [0] (hps (adv r) hP') (by kernel_rfl) leA qa (by exact qb rfl) (by exact qb rfl) ?_)
  (conv => whnf)
  refine CallY.con (qgn 5 a (qbr ts part (adv r)).1) (by rfl) leA ?_
  ((conv => whnf); refine AltG.far 5 [2] (by kernel_rfl) farA (EndG.go ?_))
  ((conv => whnf); refine ⟨(k, binT 5 a (qbr ts part (adv r)).1, (qbr ts part (adv r)).2), ⟨hP'.step (hrs _ hP'.at_), hj, by dsimp only; omega⟩, ⟨qa, qa⟩, ⟨qa, qa⟩, ?_⟩; (first | omega | (dsimp only; omega) | skip))
 ·have hc : ¬ ((sumC ts) r = true) := by simp [qdc, sumC, hb]
  rw [qaf, if_neg hc] at hj
  rw [← hj]
  exact ⟨Le.refl _, qa⟩
theorem jlm (ht : ToksOk ts) {part : Ps → Tr × Ps} (hr : Runs ts part) (hp : ∀ q, Pre ts n q → RdT ts 115 part q) : ∀ q, Pre ts n q → RdT ts 112 (qbl ts part) q := by
 intro p h
 have h2 := ht.len
 have hps := jll ht hr hp
 have hrs := qtb ht hr
 have hs := hrs p h.at_
 have hq := h.step hs
 refine zM {} 300 Tryz.func112 (fun c0 rdb mpb => ?_)
 ((conv => whnf); refine zT 300 [0] (hps p h) qa ?_)
 ((conv => whnf); refine zT 300 [0] (qag ht hq.at_ sLt) qa ?_)
 (repeat' ((conv => whnf); first | refine Ob.auto ?_ | (apply zB <;> intro hb <;> (try simp [-zd] at hb) <;> try (exfalso; omega))))
 ·have e1 : took ts (sumF ts part p).2 sLt = adv (sumF ts part p).2 := if_pos hb
  have hP' := hq.step (qf ht hq.at_ hb)
  have e2 : qbl ts part p = (binT 3 (sumF ts part p).1 (sumF ts part (adv (sumF ts part p).2)).1, (sumF ts part (adv (sumF ts part p).2)).2) := if_pos hb
  rw [e1, e2]
  (repeat' ((conv => whnf); first | (refine qap (fun _ => rfl) (by kernel_rfl) 300 ?_) | fail))
  ((conv => whnf); refine CallY.trip [0] (hps _ hP') (by kernel_rfl) leA qa (by exact qb rfl) (by exact qb rfl) ?_)
  (conv => whnf)
  refine CallY.con (qgn 3 (sumF ts part p).1 (sumF ts part (adv (sumF ts part p).2)).1) (by rfl) leA ?_
  ((conv => whnf); refine AltG.far 4 [2] (by kernel_rfl) farA (EndG.go ?_))
  (repeat' ((conv => whnf); first | refine Ob.auto ?_ | fail))
  exact ⟨Le.refl _, qa⟩
 ·have e1 : took ts (sumF ts part p).2 sLt = (sumF ts part p).2 := if_neg (by rw [hb]; decide)
  have e2 : qbl ts part p = sumF ts part p := if_neg (by rw [hb]; decide)
  rw [e1, e2]
  exact ⟨Le.refl _, qa⟩
theorem jln (ht : ToksOk ts) {part : Ps → Tr × Ps} (hr : Runs ts part) (hp : ∀ q, Pre ts n q → RdT ts 115 part q) : ∀ q, Pre ts n q → RdT ts 106 (qcr ts part) q := by
 intro p h
 have h2 := ht.len
 have hps := jlm ht hr hp
 have hrs := qtc ht hr
 have hs := hrs p h.at_
 have hq := h.step hs
 refine zM {} 300 Tryz.func106 (fun c0 rdb mpb => ?_)
 ((conv => whnf); refine zT 300 [0] (hps p h) qa ?_)
 ((conv => whnf); refine zT 300 [0] (qag ht hq.at_ sEq2) qa ?_)
 (repeat' ((conv => whnf); first | refine Ob.auto ?_ | (apply zB <;> intro hb <;> (try simp [-zd] at hb) <;> try (exfalso; omega))))
 ·have e1 : took ts (qbl ts part p).2 sEq2 = adv (qbl ts part p).2 := if_pos hb
  have hP' := hq.step (qf ht hq.at_ hb)
  have e2 : qcr ts part p = (binT 2 (qbl ts part p).1 (qbl ts part (adv (qbl ts part p).2)).1, (qbl ts part (adv (qbl ts part p).2)).2) := if_pos hb
  rw [e1, e2]
  (repeat' ((conv => whnf); first | (refine qap (fun _ => rfl) (by kernel_rfl) 300 ?_) | fail))
  ((conv => whnf); refine CallY.trip [0] (hps _ hP') (by kernel_rfl) leA qa (by exact qb rfl) (by exact qb rfl) ?_)
  (conv => whnf)
  refine CallY.con (qgn 2 (qbl ts part p).1 (qbl ts part (adv (qbl ts part p).2)).1) (by rfl) leA ?_
  ((conv => whnf); refine AltG.far 4 [2] (by kernel_rfl) farA (EndG.go ?_))
  (repeat' ((conv => whnf); first | refine Ob.auto ?_ | fail))
  exact ⟨Le.refl _, qa⟩
 ·have e1 : took ts (qbl ts part p).2 sEq2 = (qbl ts part p).2 := if_neg (by rw [hb]; decide)
  have e2 : qcr ts part p = qbl ts part p := if_neg (by rw [hb]; decide)
  rw [e1, e2]
  exact ⟨Le.refl _, qa⟩
theorem jlo (ht : ToksOk ts) {part : Ps → Tr × Ps} (hr : Runs ts part) (hp : ∀ q, Pre ts n q → RdT ts 115 part q) : ∀ q, Pre ts n q → RdT ts 95 (andF ts part) q := by
 intro p h
 have h2 := ht.len
 have hps := jln ht hr hp
 have hrs := qmi ht hr
 have hs := hrs p h.at_
 have hq := h.step hs
 refine zM {} 300 Tryz.func95 (fun c0 rdb mpb => ?_)
 ((conv => whnf); refine zT 300 [0] (hps p h) qa ?_)
 ((conv => whnf); refine qo (fun _ => rfl) 300 1 (fun _ : Nat × Tr × Ps => []) (fun g => [(2, .box 74 g.2.1.cells), (0, pso ts g.2.2)]) (fun g => Pre ts n g.2.2 ∧ qaf (qcr ts part) (fun p => sees ts p qme) (fun _ => 1) g.1 g.2.1 g.2.2 = andF ts part p ∧ (ts.length : Int) - g.2.2.at_ ≤ g.1) (fun g => ((ts.length : Int) - g.2.2.at_).toNat) ((ts.length, (qcr ts part p).1, (qcr ts part p).2)) (⟨hq, rfl, by have := hq.at_.lo; simp only; omega⟩) qa qa (fun _ => rfl) (by kernel_rfl) ?_; (conv => whnf))
 rintro ⟨k, a, r⟩ ⟨hP, hj, hk⟩
 simp only at hP hj hk
 have h0 := hP.at_.lo
 have h1 := hP.at_.hi
 obtain ⟨k, rfl⟩ : ∃ k', k = k' + 1 := ⟨k - 1, by omega⟩
 ((conv => whnf); refine zT 300 [0] (qag ht hP.at_ qme) qa ?_)
 (repeat' ((conv => whnf); first | refine Ob.auto ?_ | (apply zB <;> intro hb <;> (try simp [-zd] at hb) <;> try (exfalso; omega))))
 ·have e1 : took ts r qme = adv r := if_pos hb
  have hst := qf ht hP.at_ hb
  have hP' := hP.step hst
  rw [qaf, if_pos hb] at hj
  have hle := (hrs _ hP'.at_).le
  have hle' : r.at_ + 1 ≤ (qcr ts part (adv r)).2.at_ := hle
  dsimp only
  rw [e1]
  (repeat' ((conv => whnf); first | (refine qap (fun _ => rfl) (by kernel_rfl) 300 ?_) | fail))
  ((conv => whnf); refine CallY.trip [0] (hps (adv r) hP') (by kernel_rfl) leA qa (by exact qb rfl) (by exact qb rfl) ?_)
  (conv => whnf)
  refine CallY.con (qgn 1 a (qcr ts part (adv r)).1) (by rfl) leA ?_
  ((conv => whnf); refine AltG.far 4 [2] (by kernel_rfl) farA (EndG.go ?_))
  ((conv => whnf); refine ⟨(k, binT 1 a (qcr ts part (adv r)).1, (qcr ts part (adv r)).2), ⟨hP'.step (hrs _ hP'.at_), hj, by dsimp only; omega⟩, ⟨qa, qa⟩, ⟨qa, qa⟩, ?_⟩; (first | omega | (dsimp only; omega) | skip))
 ·have e1 : took ts r qme = r := if_neg (by rw [hb]; decide)
  rw [qaf, if_neg (by rw [hb]; decide)] at hj
  rw [← hj]
  dsimp only
  rw [e1]
  exact ⟨Le.refl _, qa⟩
theorem jag (ht : ToksOk ts) {part : Ps → Tr × Ps} (hr : Runs ts part) (hp : ∀ q, Pre ts n q → RdT ts 115 part q) : ∀ q, Pre ts n q → RdT ts 77 (qdd ts part) q := by
 intro p h
 have h2 := ht.len
 have hps := jlo ht hr hp
 have hrs := qmj ht hr
 have hs := hrs p h.at_
 have hq := h.step hs
 refine zM {} 300 Tryz.func77 (fun c0 rdb mpb => ?_)
 ((conv => whnf); refine zT 300 [0] (hps p h) qa ?_)
 ((conv => whnf); refine qo (fun _ => rfl) 300 1 (fun _ : Nat × Tr × Ps => []) (fun g => [(2, .box 74 g.2.1.cells), (0, pso ts g.2.2)]) (fun g => Pre ts n g.2.2 ∧ qaf (andF ts part) (fun p => sees ts p sOr2) (fun _ => 0) g.1 g.2.1 g.2.2 = qdd ts part p ∧ (ts.length : Int) - g.2.2.at_ ≤ g.1) (fun g => ((ts.length : Int) - g.2.2.at_).toNat) ((ts.length, (andF ts part p).1, (andF ts part p).2)) (⟨hq, rfl, by have := hq.at_.lo; simp only; omega⟩) qa qa (fun _ => rfl) (by kernel_rfl) ?_; (conv => whnf))
 rintro ⟨k, a, r⟩ ⟨hP, hj, hk⟩
 simp only at hP hj hk
 have h0 := hP.at_.lo
 have h1 := hP.at_.hi
 obtain ⟨k, rfl⟩ : ∃ k', k = k' + 1 := ⟨k - 1, by omega⟩
 ((conv => whnf); refine zT 300 [0] (qag ht hP.at_ sOr2) qa ?_)
 (repeat' ((conv => whnf); first | refine Ob.auto ?_ | (apply zB <;> intro hb <;> (try simp [-zd] at hb) <;> try (exfalso; omega))))
 ·have e1 : took ts r sOr2 = adv r := if_pos hb
  have hst := qf ht hP.at_ hb
  have hP' := hP.step hst
  rw [qaf, if_pos hb] at hj
  have hle := (hrs _ hP'.at_).le
  have hle' : r.at_ + 1 ≤ (andF ts part (adv r)).2.at_ := hle
  dsimp only
  rw [e1]
  (repeat' ((conv => whnf); first | (refine qap (fun _ => rfl) (by kernel_rfl) 300 ?_) | fail))
  ((conv => whnf); refine CallY.trip [0] (hps (adv r) hP') (by kernel_rfl) leA qa (by exact qb rfl) (by exact qb rfl) ?_)
  (conv => whnf)
  refine CallY.con (qgn 0 a (andF ts part (adv r)).1) (by rfl) leA ?_
  ((conv => whnf); refine AltG.far 4 [2] (by kernel_rfl) farA (EndG.go ?_))
  ((conv => whnf); refine ⟨(k, binT 0 a (andF ts part (adv r)).1, (andF ts part (adv r)).2), ⟨hP'.step (hrs _ hP'.at_), hj, by dsimp only; omega⟩, ⟨qa, qa⟩, ⟨qa, qa⟩, ?_⟩; (first | omega | (dsimp only; omega) | skip))
 ·have e1 : took ts r sOr2 = r := if_neg (by rw [hb]; decide)
  rw [qaf, if_neg (by rw [hb]; decide)] at hj
  rw [← hj]
  dsimp only
  rw [e1]
  exact ⟨Le.refl _, qa⟩
end
end Go.Proofs.YtdoaagphhjggbaaGreatDoor
