/- Contracts of the document's parser: expressions. -/
import Derived.Test.YtdoaagphhjggbaaGreatQPa1
import Derived.Test.YtdoaagphhjggbaaGreatQ2
namespace Go.Proofs.YtdoaagphhjggbaaGreat
open List renaming getD_eq_getElem?_getD → zd
open Go Go.Sx Go.RowKit Go.St Pa
set_option maxRecDepth 100000
set_option maxHeartbeats 4000000
structure Pre (ts : List Lx.Tok) (n : Nat) (p : Ps) : Prop where
 at_ : AtOk ts p
 deep : 0 ≤ p.deep ∧ p.deep ≤ p.at_ + 1
 left : (ts.length : Int) - p.at_ ≤ n
section
variable {ts : List Lx.Tok} {p q : Ps} {n : Nat}
theorem Pre.step (h : Pre ts n p) (k : Step ts p q) : Pre ts n q :=
 ⟨k.ok h.at_, by have := h.deep; have := k.deep; have := k.le; omega, by have := h.left; have := k.le; omega⟩
abbrev RdT (ts : List Lx.Tok) (f : FuncId) (F : Ps → Tr × Ps) (p : Ps) : Prop := Trip Tryz.prog f [.ptr 0 0] [pso ts p] (F p).1.av [(0, pso ts (F p).2)] 1
theorem jni (a b : Tr) : Le (.slc 6 2 (chop 6 (a.cells ++ b.cells))) (qlr [a, b]) := Le.slc rfl (fun i hi => by
 match i, hi with
 | 0, _ => exact (Tr.cellsL_get [a, b] 0 (Nat.zero_lt_succ _)).symm
 | 1, _ => exact (Tr.cellsL_get [a, b] 1 (Nat.lt_succ_self _)).symm)
theorem qhu (sg : Int) (a b : Tr) : Con Tryz.prog 141 [iv sg, a.av, b.av] (binT sg a b).av := by
 refine zK {} 300 Tryz.func141 (fun c0 rdb => ?_)
 (repeat' ((conv => whnf); first | refine Ob.auto ?_ | fail))
 refine Le.agg ⟨Le.refl _, Le.nils _ _, Le.slc rfl (fun i hi => ?_), Le.refl _, Le.refl _, jni a b, trivial⟩
 obtain rfl : i = 0 := by omega
 rfl
theorem jnj (ht : ToksOk ts) {part : Ps → Tr × Ps} (hr : Runs ts part) (hp : ∀ q, Pre ts n q → RdT ts 153 part q) : ∀ q, Pre ts n q → RdT ts 152 (qce ts part) q := by
 intro p h
 have h2 := ht.len
 have hps := hp
 have hrs := hr
 have hs := hrs p h.at_
 have hq := h.step hs
 refine zM {} 300 Tryz.func152 (fun c0 rdb mpb => ?_)
 ((conv => whnf); refine zT 300 [0] (hps p h) qa ?_)
 ((conv => whnf); refine qo (fun _ => rfl) 300 1 (fun _ : Nat × Tr × Ps => []) (fun g => [(2, .box 106 g.2.1.cells), (0, pso ts g.2.2)]) (fun g => Pre ts n g.2.2 ∧ qar (part) (qdz ts) (qiu ts) g.1 g.2.1 g.2.2 = qce ts part p ∧ (ts.length : Int) - g.2.2.at_ ≤ g.1) (fun g => ((ts.length : Int) - g.2.2.at_).toNat) ((ts.length, (part p).1, (part p).2)) (⟨hq, rfl, by have := hq.at_.lo; simp only; omega⟩) qa qa (fun _ => rfl) (by kernel_rfl) ?_; (conv => whnf))
 rintro ⟨k, a, r⟩ ⟨hP, hj, hk⟩
 simp only at hP hj hk
 have h0 := hP.at_.lo
 have h1 := hP.at_.hi
 obtain ⟨k, rfl⟩ : ∃ k', k = k' + 1 := ⟨k - 1, by omega⟩
 (repeat' ((conv => whnf); first | refine Ob.auto ?_ | (refine Ob.intro (by (exact qdu (by dsimp only; omega) (by dsimp only; omega))) ?_) | refine zE 300 (qey hP.at_ _) ?_ | refine zF 300 (fun hg => qey hP.at_ _) ?_ | (apply zB <;> intro hb <;> (try simp [-zd] at hb) <;> try (exfalso; omega))))
 ·have hc : (qdz ts) r = true := by simp [qdz, sumC, *]
  have hsg : (qiu ts) r = 6 := by unfold qiu; rw [if_pos hb]
  have hst := qg ht hP.at_ hb
  have hP' := hP.step hst
  rw [qar, if_pos hc, hsg] at hj
  have hle := (hrs _ hP'.at_).le
  have hle' : r.at_ + 1 ≤ (part (adv r)).2.at_ := hle
  (repeat' ((conv => whnf); first | (refine qbb (fun _ => rfl) (by kernel_rfl) 300 ?_) | fail))
  ((conv => whnf); refine CallY.trip [0] (hps (adv r) hP') (by kernel_rfl) leA qa (by exact qb rfl) (by exact qb rfl) ?_)
  (conv => whnf)
  refine CallY.con (qhu 6 a (part (adv r)).1) (by rfl) leA ?_
  ((conv => whnf); refine AltG.far 5 [2] (by kernel_rfl) farA (EndG.go ?_))
  ((conv => whnf); refine ⟨(k, binT 6 a (part (adv r)).1, (part (adv r)).2), ⟨hP'.step (hrs _ hP'.at_), hj, by dsimp only; omega⟩, ⟨qa, qa⟩, ⟨qa, qa⟩, ?_⟩; (first | omega | (dsimp only; omega) | skip))
 ·have hc : (qdz ts) r = true := by simp [qdz, sumC, *]
  have hsg : (qiu ts) r = 7 := by unfold qiu; rw [if_neg (by simp [*]), if_pos hb]
  have hst := qg ht hP.at_ hb
  have hP' := hP.step hst
  rw [qar, if_pos hc, hsg] at hj
  have hle := (hrs _ hP'.at_).le
  have hle' : r.at_ + 1 ≤ (part (adv r)).2.at_ := hle
  (repeat' ((conv => whnf); first | (refine qbb (fun _ => rfl) (by kernel_rfl) 300 ?_) | fail))
  ((conv => whnf); refine CallY.trip [0] (hps (adv r) hP') (by kernel_rfl) leA qa (by exact qb rfl) (by exact qb rfl) ?_)
  (conv => whnf)
  refine CallY.con (qhu 7 a (part (adv r)).1) (by rfl) leA ?_
  ((conv => whnf); refine AltG.far 5 [2] (by kernel_rfl) farA (EndG.go ?_))
  ((conv => whnf); refine ⟨(k, binT 7 a (part (adv r)).1, (part (adv r)).2), ⟨hP'.step (hrs _ hP'.at_), hj, by dsimp only; omega⟩, ⟨qa, qa⟩, ⟨qa, qa⟩, ?_⟩; (first | omega | (dsimp only; omega) | skip))
 ·have hpct : sees ts r sPct = true := by simp_all
  have hc : qdz ts r = true := by unfold qdz; rw [hpct]; simp
  have hsg : (qiu ts) r = 8 := by unfold qiu; rw [if_neg (by simp [*]), if_neg (by simp [*])]
  have hst := qg ht hP.at_ hpct
  have hP' := hP.step hst
  rw [qar, if_pos hc, hsg] at hj
  have hle := (hrs _ hP'.at_).le
  have hle' : r.at_ + 1 ≤ (part (adv r)).2.at_ := hle
  (repeat' ((conv => whnf); first | (refine qbb (fun _ => rfl) (by kernel_rfl) 300 ?_) | fail))
  ((conv => whnf); refine CallY.trip [0] (hps (adv r) hP') (by kernel_rfl) leA qa (by exact qb rfl) (by exact qb rfl) ?_)
  (conv => whnf)
  refine CallY.con (qhu 8 a (part (adv r)).1) (by rfl) leA ?_
  ((conv => whnf); refine AltG.far 5 [2] (by kernel_rfl) farA (EndG.go ?_))
  ((conv => whnf); refine ⟨(k, binT 8 a (part (adv r)).1, (part (adv r)).2), ⟨hP'.step (hrs _ hP'.at_), hj, by dsimp only; omega⟩, ⟨qa, qa⟩, ⟨qa, qa⟩, ?_⟩; (first | omega | (dsimp only; omega) | skip))
 ·have hc : ¬ ((qdz ts) r = true) := by simp [qdz, sumC, hb]
  rw [qar, if_neg hc] at hj
  rw [← hj]
  exact ⟨Le.refl _, qa⟩
theorem jnk (ht : ToksOk ts) {part : Ps → Tr × Ps} (hr : Runs ts part) (hp : ∀ q, Pre ts n q → RdT ts 153 part q) : ∀ q, Pre ts n q → RdT ts 151 (sumF ts part) q := by
 intro p h
 have h2 := ht.len
 have hps := jnj ht hr hp
 have hrs := qnu ht hr
 have hs := hrs p h.at_
 have hq := h.step hs
 refine zM {} 300 Tryz.func151 (fun c0 rdb mpb => ?_)
 ((conv => whnf); refine zT 300 [0] (hps p h) qa ?_)
 ((conv => whnf); refine qo (fun _ => rfl) 300 1 (fun _ : Nat × Tr × Ps => []) (fun g => [(2, .box 106 g.2.1.cells), (0, pso ts g.2.2)]) (fun g => Pre ts n g.2.2 ∧ qar (qce ts part) (sumC ts) (sumS ts) g.1 g.2.1 g.2.2 = sumF ts part p ∧ (ts.length : Int) - g.2.2.at_ ≤ g.1) (fun g => ((ts.length : Int) - g.2.2.at_).toNat) ((ts.length, (qce ts part p).1, (qce ts part p).2)) (⟨hq, rfl, by have := hq.at_.lo; simp only; omega⟩) qa qa (fun _ => rfl) (by kernel_rfl) ?_; (conv => whnf))
 rintro ⟨k, a, r⟩ ⟨hP, hj, hk⟩
 simp only at hP hj hk
 have h0 := hP.at_.lo
 have h1 := hP.at_.hi
 obtain ⟨k, rfl⟩ : ∃ k', k = k' + 1 := ⟨k - 1, by omega⟩
 (repeat' ((conv => whnf); first | refine Ob.auto ?_ | (refine Ob.intro (by (exact qdu (by dsimp only; omega) (by dsimp only; omega))) ?_) | refine zE 300 (qey hP.at_ _) ?_ | refine zF 300 (fun hg => qey hP.at_ _) ?_ | (apply zB <;> intro hb <;> (try simp [-zd] at hb) <;> try (exfalso; omega))))
 ·have hc : (sumC ts) r = true := by simp [qdz, sumC, *]
  have hsg : (sumS ts) r = 4 := by unfold sumS; rw [if_pos hb]
  have hst := qg ht hP.at_ hb
  have hP' := hP.step hst
  rw [qar, if_pos hc, hsg] at hj
  have hle := (hrs _ hP'.at_).le
  have hle' : r.at_ + 1 ≤ (qce ts part (adv r)).2.at_ := hle
  (repeat' ((conv => whnf); first | (refine qbb (fun _ => rfl) (by kernel_rfl) 300 ?_) | fail))
  ((conv => whnf); refine CallY.trip [0] (hps (adv r) hP') (by kernel_rfl) leA qa (by exact qb rfl) (by exact qb rfl) ?_)
  (conv => whnf)
  refine CallY.con (qhu 4 a (qce ts part (adv r)).1) (by rfl) leA ?_
  ((conv => whnf); refine AltG.far 5 [2] (by kernel_rfl) farA (EndG.go ?_))
  ((conv => whnf); refine ⟨(k, binT 4 a (qce ts part (adv r)).1, (qce ts part (adv r)).2), ⟨hP'.step (hrs _ hP'.at_), hj, by dsimp only; omega⟩, ⟨qa, qa⟩, ⟨qa, qa⟩, ?_⟩; (first | omega | (dsimp only; omega) | skip))
 ·have hmin : sees ts r qex = true := by simp_all
  have hc : sumC ts r = true := by unfold sumC; rw [hmin]; simp
  have hsg : (sumS ts) r = 5 := by unfold sumS; rw [if_neg (by simp [*])]
  have hst := qg ht hP.at_ hmin
  have hP' := hP.step hst
  rw [qar, if_pos hc, hsg] at hj
  have hle := (hrs _ hP'.at_).le
  have hle' : r.at_ + 1 ≤ (qce ts part (adv r)).2.at_ := hle
  (repeat' ((conv => whnf); first | (refine qbb (fun _ => rfl) (by kernel_rfl) 300 ?_) | fail))
  ((conv => whnf); refine CallY.trip [0] (hps (adv r) hP') (by kernel_rfl) leA qa (by exact qb rfl) (by exact qb rfl) ?_)
  (conv => whnf)
  refine CallY.con (qhu 5 a (qce ts part (adv r)).1) (by rfl) leA ?_
  ((conv => whnf); refine AltG.far 5 [2] (by kernel_rfl) farA (EndG.go ?_))
  ((conv => whnf); refine ⟨(k, binT 5 a (qce ts part (adv r)).1, (qce ts part (adv r)).2), ⟨hP'.step (hrs _ hP'.at_), hj, by dsimp only; omega⟩, ⟨qa, qa⟩, ⟨qa, qa⟩, ?_⟩; (first | omega | (dsimp only; omega) | skip))
 ·have hc : ¬ ((sumC ts) r = true) := by simp [qdz, sumC, hb]
  rw [qar, if_neg hc] at hj
  rw [← hj]
  exact ⟨Le.refl _, qa⟩
theorem jnl (ht : ToksOk ts) {part : Ps → Tr × Ps} (hr : Runs ts part) (hp : ∀ q, Pre ts n q → RdT ts 153 part q) : ∀ q, Pre ts n q → RdT ts 150 (qcb ts part) q := by
 intro p h
 have h2 := ht.len
 have hps := jnk ht hr hp
 have hrs := qug ht hr
 have hs := hrs p h.at_
 have hq := h.step hs
 refine zM {} 300 Tryz.func150 (fun c0 rdb mpb => ?_)
 ((conv => whnf); refine zT 300 [0] (hps p h) qa ?_)
 ((conv => whnf); refine zT 300 [0] (qas ht hq.at_ sLt) qa ?_)
 (repeat' ((conv => whnf); first | refine Ob.auto ?_ | (apply zB <;> intro hb <;> (try simp [-zd] at hb) <;> try (exfalso; omega))))
 ·have e1 : took ts (sumF ts part p).2 sLt = adv (sumF ts part p).2 := if_pos hb
  have hP' := hq.step (qg ht hq.at_ hb)
  have e2 : qcb ts part p = (binT 3 (sumF ts part p).1 (sumF ts part (adv (sumF ts part p).2)).1, (sumF ts part (adv (sumF ts part p).2)).2) := if_pos hb
  rw [e1, e2]
  (repeat' ((conv => whnf); first | (refine qbb (fun _ => rfl) (by kernel_rfl) 300 ?_) | fail))
  ((conv => whnf); refine CallY.trip [0] (hps _ hP') (by kernel_rfl) leA qa (by exact qb rfl) (by exact qb rfl) ?_)
  (conv => whnf)
  refine CallY.con (qhu 3 (sumF ts part p).1 (sumF ts part (adv (sumF ts part p).2)).1) (by rfl) leA ?_
  ((conv => whnf); refine AltG.far 4 [2] (by kernel_rfl) farA (EndG.go ?_))
  (repeat' ((conv => whnf); first | refine Ob.auto ?_ | fail))
  exact ⟨Le.refl _, qa⟩
 ·have e1 : took ts (sumF ts part p).2 sLt = (sumF ts part p).2 := if_neg (by rw [hb]; decide)
  have e2 : qcb ts part p = sumF ts part p := if_neg (by rw [hb]; decide)
  rw [e1, e2]
  exact ⟨Le.refl _, qa⟩
theorem jnm (ht : ToksOk ts) {part : Ps → Tr × Ps} (hr : Runs ts part) (hp : ∀ q, Pre ts n q → RdT ts 153 part q) : ∀ q, Pre ts n q → RdT ts 146 (qdk ts part) q := by
 intro p h
 have h2 := ht.len
 have hps := jnl ht hr hp
 have hrs := quh ht hr
 have hs := hrs p h.at_
 have hq := h.step hs
 refine zM {} 300 Tryz.func146 (fun c0 rdb mpb => ?_)
 ((conv => whnf); refine zT 300 [0] (hps p h) qa ?_)
 ((conv => whnf); refine zT 300 [0] (qas ht hq.at_ sEq2) qa ?_)
 (repeat' ((conv => whnf); first | refine Ob.auto ?_ | (apply zB <;> intro hb <;> (try simp [-zd] at hb) <;> try (exfalso; omega))))
 ·have e1 : took ts (qcb ts part p).2 sEq2 = adv (qcb ts part p).2 := if_pos hb
  have hP' := hq.step (qg ht hq.at_ hb)
  have e2 : qdk ts part p = (binT 2 (qcb ts part p).1 (qcb ts part (adv (qcb ts part p).2)).1, (qcb ts part (adv (qcb ts part p).2)).2) := if_pos hb
  rw [e1, e2]
  (repeat' ((conv => whnf); first | (refine qbb (fun _ => rfl) (by kernel_rfl) 300 ?_) | fail))
  ((conv => whnf); refine CallY.trip [0] (hps _ hP') (by kernel_rfl) leA qa (by exact qb rfl) (by exact qb rfl) ?_)
  (conv => whnf)
  refine CallY.con (qhu 2 (qcb ts part p).1 (qcb ts part (adv (qcb ts part p).2)).1) (by rfl) leA ?_
  ((conv => whnf); refine AltG.far 4 [2] (by kernel_rfl) farA (EndG.go ?_))
  (repeat' ((conv => whnf); first | refine Ob.auto ?_ | fail))
  exact ⟨Le.refl _, qa⟩
 ·have e1 : took ts (qcb ts part p).2 sEq2 = (qcb ts part p).2 := if_neg (by rw [hb]; decide)
  have e2 : qdk ts part p = qcb ts part p := if_neg (by rw [hb]; decide)
  rw [e1, e2]
  exact ⟨Le.refl _, qa⟩
theorem jnn (ht : ToksOk ts) {part : Ps → Tr × Ps} (hr : Runs ts part) (hp : ∀ q, Pre ts n q → RdT ts 153 part q) : ∀ q, Pre ts n q → RdT ts 140 (andF ts part) q := by
 intro p h
 have h2 := ht.len
 have hps := jnm ht hr hp
 have hrs := qnv ht hr
 have hs := hrs p h.at_
 have hq := h.step hs
 refine zM {} 300 Tryz.func140 (fun c0 rdb mpb => ?_)
 ((conv => whnf); refine zT 300 [0] (hps p h) qa ?_)
 ((conv => whnf); refine qo (fun _ => rfl) 300 1 (fun _ : Nat × Tr × Ps => []) (fun g => [(2, .box 106 g.2.1.cells), (0, pso ts g.2.2)]) (fun g => Pre ts n g.2.2 ∧ qar (qdk ts part) (fun p => sees ts p qnr) (fun _ => 1) g.1 g.2.1 g.2.2 = andF ts part p ∧ (ts.length : Int) - g.2.2.at_ ≤ g.1) (fun g => ((ts.length : Int) - g.2.2.at_).toNat) ((ts.length, (qdk ts part p).1, (qdk ts part p).2)) (⟨hq, rfl, by have := hq.at_.lo; simp only; omega⟩) qa qa (fun _ => rfl) (by kernel_rfl) ?_; (conv => whnf))
 rintro ⟨k, a, r⟩ ⟨hP, hj, hk⟩
 simp only at hP hj hk
 have h0 := hP.at_.lo
 have h1 := hP.at_.hi
 obtain ⟨k, rfl⟩ : ∃ k', k = k' + 1 := ⟨k - 1, by omega⟩
 ((conv => whnf); refine zT 300 [0] (qas ht hP.at_ qnr) qa ?_)
 (repeat' ((conv => whnf); first | refine Ob.auto ?_ | (apply zB <;> intro hb <;> (try simp [-zd] at hb) <;> try (exfalso; omega))))
 ·have e1 : took ts r qnr = adv r := if_pos hb
  have hst := qg ht hP.at_ hb
  have hP' := hP.step hst
  rw [qar, if_pos hb] at hj
  have hle := (hrs _ hP'.at_).le
  have hle' : r.at_ + 1 ≤ (qdk ts part (adv r)).2.at_ := hle
  dsimp only
  rw [e1]
  (repeat' ((conv => whnf); first | (refine qbb (fun _ => rfl) (by kernel_rfl) 300 ?_) | fail))
  ((conv => whnf); refine CallY.trip [0] (hps (adv r) hP') (by kernel_rfl) leA qa (by exact qb rfl) (by exact qb rfl) ?_)
  (conv => whnf)
  refine CallY.con (qhu 1 a (qdk ts part (adv r)).1) (by rfl) leA ?_
  ((conv => whnf); refine AltG.far 4 [2] (by kernel_rfl) farA (EndG.go ?_))
  ((conv => whnf); refine ⟨(k, binT 1 a (qdk ts part (adv r)).1, (qdk ts part (adv r)).2), ⟨hP'.step (hrs _ hP'.at_), hj, by dsimp only; omega⟩, ⟨qa, qa⟩, ⟨qa, qa⟩, ?_⟩; (first | omega | (dsimp only; omega) | skip))
 ·have e1 : took ts r qnr = r := if_neg (by rw [hb]; decide)
  rw [qar, if_neg (by rw [hb]; decide)] at hj
  rw [← hj]
  dsimp only
  rw [e1]
  exact ⟨Le.refl _, qa⟩
theorem jau (ht : ToksOk ts) {part : Ps → Tr × Ps} (hr : Runs ts part) (hp : ∀ q, Pre ts n q → RdT ts 153 part q) : ∀ q, Pre ts n q → RdT ts 127 (qea ts part) q := by
 intro p h
 have h2 := ht.len
 have hps := jnn ht hr hp
 have hrs := qnw ht hr
 have hs := hrs p h.at_
 have hq := h.step hs
 refine zM {} 300 Tryz.func127 (fun c0 rdb mpb => ?_)
 ((conv => whnf); refine zT 300 [0] (hps p h) qa ?_)
 ((conv => whnf); refine qo (fun _ => rfl) 300 1 (fun _ : Nat × Tr × Ps => []) (fun g => [(2, .box 106 g.2.1.cells), (0, pso ts g.2.2)]) (fun g => Pre ts n g.2.2 ∧ qar (andF ts part) (fun p => sees ts p sOr2) (fun _ => 0) g.1 g.2.1 g.2.2 = qea ts part p ∧ (ts.length : Int) - g.2.2.at_ ≤ g.1) (fun g => ((ts.length : Int) - g.2.2.at_).toNat) ((ts.length, (andF ts part p).1, (andF ts part p).2)) (⟨hq, rfl, by have := hq.at_.lo; simp only; omega⟩) qa qa (fun _ => rfl) (by kernel_rfl) ?_; (conv => whnf))
 rintro ⟨k, a, r⟩ ⟨hP, hj, hk⟩
 simp only at hP hj hk
 have h0 := hP.at_.lo
 have h1 := hP.at_.hi
 obtain ⟨k, rfl⟩ : ∃ k', k = k' + 1 := ⟨k - 1, by omega⟩
 ((conv => whnf); refine zT 300 [0] (qas ht hP.at_ sOr2) qa ?_)
 (repeat' ((conv => whnf); first | refine Ob.auto ?_ | (apply zB <;> intro hb <;> (try simp [-zd] at hb) <;> try (exfalso; omega))))
 ·have e1 : took ts r sOr2 = adv r := if_pos hb
  have hst := qg ht hP.at_ hb
  have hP' := hP.step hst
  rw [qar, if_pos hb] at hj
  have hle := (hrs _ hP'.at_).le
  have hle' : r.at_ + 1 ≤ (andF ts part (adv r)).2.at_ := hle
  dsimp only
  rw [e1]
  (repeat' ((conv => whnf); first | (refine qbb (fun _ => rfl) (by kernel_rfl) 300 ?_) | fail))
  ((conv => whnf); refine CallY.trip [0] (hps (adv r) hP') (by kernel_rfl) leA qa (by exact qb rfl) (by exact qb rfl) ?_)
  (conv => whnf)
  refine CallY.con (qhu 0 a (andF ts part (adv r)).1) (by rfl) leA ?_
  ((conv => whnf); refine AltG.far 4 [2] (by kernel_rfl) farA (EndG.go ?_))
  ((conv => whnf); refine ⟨(k, binT 0 a (andF ts part (adv r)).1, (andF ts part (adv r)).2), ⟨hP'.step (hrs _ hP'.at_), hj, by dsimp only; omega⟩, ⟨qa, qa⟩, ⟨qa, qa⟩, ?_⟩; (first | omega | (dsimp only; omega) | skip))
 ·have e1 : took ts r sOr2 = r := if_neg (by rw [hb]; decide)
  rw [qar, if_neg (by rw [hb]; decide)] at hj
  rw [← hj]
  dsimp only
  rw [e1]
  exact ⟨Le.refl _, qa⟩
end
end Go.Proofs.YtdoaagphhjggbaaGreat
