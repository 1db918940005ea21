/- Contracts of the document's parser: expressions. -/
import Derived.Test.YtdoaagphhjggbaaQPa1
import Derived.Test.YtdoaagphhjggbaaQ2
namespace Go.Proofs.Ytdoaagphhjggbaa
open List renaming getD_eq_getElem?_getD → zd
open Go Go.Sx Go.RowKit Go.St Pa
set_option maxRecDepth 100000
set_option maxHeartbeats 4000000
structure Pre (ts : List Lx.Tok) (n : Nat) (p : Ps) : Prop where
 at_ : AtOk ts p
 deep : 0 ≤ p.deep ∧ p.deep ≤ p.at_ + 1
 left : (ts.length : Int) - p.at_ ≤ n
section
variable {ts : List Lx.Tok} {p q : Ps} {n : Nat}
theorem Pre.step (h : Pre ts n p) (k : Step ts p q) : Pre ts n q :=
 ⟨k.ok h.at_, by have := h.deep; have := k.deep; have := k.le; omega, by have := h.left; have := k.le; omega⟩
abbrev RdT (ts : List Lx.Tok) (f : FuncId) (F : Ps → Tr × Ps) (p : Ps) : Prop := Trip Try.prog f [.ptr 0 0] [pso ts p] (F p).1.av [(0, pso ts (F p).2)] 1
theorem jkd (a b : Tr) : Le (.slc 6 2 (chop 6 (a.cells ++ b.cells))) (qkl [a, b]) := Le.slc rfl (fun i hi => by
 match i, hi with
 | 0, _ => exact (Tr.cellsL_get [a, b] 0 (Nat.zero_lt_succ _)).symm
 | 1, _ => exact (Tr.cellsL_get [a, b] 1 (Nat.lt_succ_self _)).symm)
theorem qgo (sg : Int) (a b : Tr) : Con Try.prog 112 [iv sg, a.av, b.av] (binT sg a b).av := by
 refine zK {} 300 Try.func112 (fun c0 rdb => ?_)
 (repeat' ((conv => whnf); first | refine Ob.auto ?_ | fail))
 refine Le.agg ⟨Le.refl _, Le.nils _ _, Le.slc rfl (fun i hi => ?_), Le.refl _, Le.refl _, jkd a b, trivial⟩
 obtain rfl : i = 0 := by omega
 rfl
theorem jke (ht : ToksOk ts) {part : Ps → Tr × Ps} (hr : Runs ts part) (hp : ∀ q, Pre ts n q → RdT ts 124 part q) : ∀ q, Pre ts n q → RdT ts 123 (qbr ts part) q := by
 intro p h
 have h2 := ht.len
 have hps := hp
 have hrs := hr
 have hs := hrs p h.at_
 have hq := h.step hs
 refine zM {} 300 Try.func123 (fun c0 rdb mpb => ?_)
 ((conv => whnf); refine zT 300 [0] (hps p h) qa ?_)
 ((conv => whnf); refine qx (fun _ => rfl) 300 1 (fun _ : Nat × Tr × Ps => []) (fun g => [(2, .box 89 g.2.1.cells), (0, pso ts g.2.2)]) (fun g => Pre ts n g.2.2 ∧ qaj (part) (qdj ts) (qho ts) g.1 g.2.1 g.2.2 = qbr ts part p ∧ (ts.length : Int) - g.2.2.at_ ≤ g.1) (fun g => ((ts.length : Int) - g.2.2.at_).toNat) ((ts.length, (part p).1, (part p).2)) (⟨hq, rfl, by have := hq.at_.lo; simp only; omega⟩) qa qa (fun _ => rfl) (by kernel_rfl) ?_; (conv => whnf))
 rintro ⟨k, a, r⟩ ⟨hP, hj, hk⟩
 simp only at hP hj hk
 have h0 := hP.at_.lo
 have h1 := hP.at_.hi
 obtain ⟨k, rfl⟩ : ∃ k', k = k' + 1 := ⟨k - 1, by omega⟩
 (repeat' ((conv => whnf); first | refine Ob.auto ?_ | (refine Ob.intro (by (exact qdr (by dsimp only; omega) (by dsimp only; omega))) ?_) | refine zE 300 (qee hP.at_ _) ?_ | refine zF 300 (fun hg => qee hP.at_ _) ?_ | (apply zB <;> intro hb <;> (try simp [-zd] at hb) <;> try (exfalso; omega))))
 ·have hc : (qdj ts) r = true := by simp [qdj, sumC, *]
  have hsg : (qho ts) r = 6 := by unfold qho; rw [if_pos hb]
  have hst := qg ht hP.at_ hb
  have hP' := hP.step hst
  rw [qaj, if_pos hc, hsg] at hj
  have hle := (hrs _ hP'.at_).le
  have hle' : r.at_ + 1 ≤ (part (adv r)).2.at_ := hle
  (repeat' ((conv => whnf); first | (refine qas (fun _ => rfl) (by kernel_rfl) 300 ?_) | fail))
  ((conv => whnf); refine CallY.trip [0] (hps (adv r) hP') (by kernel_rfl) leA qa (by exact qb rfl) (by exact qb rfl) ?_)
  (conv => whnf)
  refine CallY.con (qgo 6 a (part (adv r)).1) (by rfl) leA ?_
  ((conv => whnf); refine AltG.far 5 [2] (by kernel_rfl) farA (EndG.go ?_))
  ((conv => whnf); refine ⟨(k, binT 6 a (part (adv r)).1, (part (adv r)).2), ⟨hP'.step (hrs _ hP'.at_), hj, by dsimp only; omega⟩, ⟨qa, qa⟩, ⟨qa, qa⟩, ?_⟩; (first | omega | (dsimp only; omega) | skip))
 ·have hc : (qdj ts) r = true := by simp [qdj, sumC, *]
  have hsg : (qho ts) r = 7 := by unfold qho; rw [if_neg (by simp [*]), if_pos hb]
  have hst := qg ht hP.at_ hb
  have hP' := hP.step hst
  rw [qaj, if_pos hc, hsg] at hj
  have hle := (hrs _ hP'.at_).le
  have hle' : r.at_ + 1 ≤ (part (adv r)).2.at_ := hle
  (repeat' ((conv => whnf); first | (refine qas (fun _ => rfl) (by kernel_rfl) 300 ?_) | fail))
  ((conv => whnf); refine CallY.trip [0] (hps (adv r) hP') (by kernel_rfl) leA qa (by exact qb rfl) (by exact qb rfl) ?_)
  (conv => whnf)
  refine CallY.con (qgo 7 a (part (adv r)).1) (by rfl) leA ?_
  ((conv => whnf); refine AltG.far 5 [2] (by kernel_rfl) farA (EndG.go ?_))
  ((conv => whnf); refine ⟨(k, binT 7 a (part (adv r)).1, (part (adv r)).2), ⟨hP'.step (hrs _ hP'.at_), hj, by dsimp only; omega⟩, ⟨qa, qa⟩, ⟨qa, qa⟩, ?_⟩; (first | omega | (dsimp only; omega) | skip))
 ·have hpct : sees ts r sPct = true := by simp_all
  have hc : qdj ts r = true := by unfold qdj; rw [hpct]; simp
  have hsg : (qho ts) r = 8 := by unfold qho; rw [if_neg (by simp [*]), if_neg (by simp [*])]
  have hst := qg ht hP.at_ hpct
  have hP' := hP.step hst
  rw [qaj, if_pos hc, hsg] at hj
  have hle := (hrs _ hP'.at_).le
  have hle' : r.at_ + 1 ≤ (part (adv r)).2.at_ := hle
  (repeat' ((conv => whnf); first | (refine qas (fun _ => rfl) (by kernel_rfl) 300 ?_) | fail))
  ((conv => whnf); refine CallY.trip [0] (hps (adv r) hP') (by kernel_rfl) leA qa (by exact qb rfl) (by exact qb rfl) ?_)
  (conv => whnf)
  refine CallY.con (qgo 8 a (part (adv r)).1) (by rfl) leA ?_
  ((conv => whnf); refine AltG.far 5 [2] (by kernel_rfl) farA (EndG.go ?_))
  ((conv => whnf); refine ⟨(k, binT 8 a (part (adv r)).1, (part (adv r)).2), ⟨hP'.step (hrs _ hP'.at_), hj, by dsimp only; omega⟩, ⟨qa, qa⟩, ⟨qa, qa⟩, ?_⟩; (first | omega | (dsimp only; omega) | skip))
 ·have hc : ¬ ((qdj ts) r = true) := by simp [qdj, sumC, hb]
  rw [qaj, if_neg hc] at hj
  rw [← hj]
  exact ⟨Le.refl _, qa⟩
theorem jkf (ht : ToksOk ts) {part : Ps → Tr × Ps} (hr : Runs ts part) (hp : ∀ q, Pre ts n q → RdT ts 124 part q) : ∀ q, Pre ts n q → RdT ts 122 (sumF ts part) q := by
 intro p h
 have h2 := ht.len
 have hps := jke ht hr hp
 have hrs := qmo ht hr
 have hs := hrs p h.at_
 have hq := h.step hs
 refine zM {} 300 Try.func122 (fun c0 rdb mpb => ?_)
 ((conv => whnf); refine zT 300 [0] (hps p h) qa ?_)
 ((conv => whnf); refine qx (fun _ => rfl) 300 1 (fun _ : Nat × Tr × Ps => []) (fun g => [(2, .box 89 g.2.1.cells), (0, pso ts g.2.2)]) (fun g => Pre ts n g.2.2 ∧ qaj (qbr ts part) (sumC ts) (sumS ts) g.1 g.2.1 g.2.2 = sumF ts part p ∧ (ts.length : Int) - g.2.2.at_ ≤ g.1) (fun g => ((ts.length : Int) - g.2.2.at_).toNat) ((ts.length, (qbr ts part p).1, (qbr ts part p).2)) (⟨hq, rfl, by have := hq.at_.lo; simp only; omega⟩) qa qa (fun _ => rfl) (by kernel_rfl) ?_; (conv => whnf))
 rintro ⟨k, a, r⟩ ⟨hP, hj, hk⟩
 simp only at hP hj hk
 have h0 := hP.at_.lo
 have h1 := hP.at_.hi
 obtain ⟨k, rfl⟩ : ∃ k', k = k' + 1 := ⟨k - 1, by omega⟩
 (repeat' ((conv => whnf); first | refine Ob.auto ?_ | (refine Ob.intro (by (exact qdr (by dsimp only; omega) (by dsimp only; omega))) ?_) | refine zE 300 (qee hP.at_ _) ?_ | refine zF 300 (fun hg => qee hP.at_ _) ?_ | (apply zB <;> intro hb <;> (try simp [-zd] at hb) <;> try (exfalso; omega))))
 ·have hc : (sumC ts) r = true := by simp [qdj, sumC, *]
  have hsg : (sumS ts) r = 4 := by unfold sumS; rw [if_pos hb]
  have hst := qg ht hP.at_ hb
  have hP' := hP.step hst
  rw [qaj, if_pos hc, hsg] at hj
  have hle := (hrs _ hP'.at_).le
  have hle' : r.at_ + 1 ≤ (qbr ts part (adv r)).2.at_ := hle
  (repeat' ((conv => whnf); first | (refine qas (fun _ => rfl) (by kernel_rfl) 300 ?_) | fail))
  ((conv => whnf); refine CallY.trip [0] (hps (adv r) hP') (by kernel_rfl) leA qa (by exact qb rfl) (by exact qb rfl) ?_)
  (conv => whnf)
  refine CallY.con (qgo 4 a (qbr ts part (adv r)).1) (by rfl) leA ?_
  ((conv => whnf); refine AltG.far 5 [2] (by kernel_rfl) farA (EndG.go ?_))
  ((conv => whnf); refine ⟨(k, binT 4 a (qbr ts part (adv r)).1, (qbr ts part (adv r)).2), ⟨hP'.step (hrs _ hP'.at_), hj, by dsimp only; omega⟩, ⟨qa, qa⟩, ⟨qa, qa⟩, ?_⟩; (first | omega | (dsimp only; omega) | skip))
 ·have hmin : sees ts r qed = true := by simp_all
  have hc : sumC ts r = true := by unfold sumC; rw [hmin]; simp
  have hsg : (sumS ts) r = 5 := by unfold sumS; rw [if_neg (by simp [*])]
  have hst := qg ht hP.at_ hmin
  have hP' := hP.step hst
  rw [qaj, if_pos hc, hsg] at hj
  have hle := (hrs _ hP'.at_).le
  have hle' : r.at_ + 1 ≤ (qbr ts part (adv r)).2.at_ := hle
  (repeat' ((conv => whnf); first | (refine qas (fun _ => rfl) (by kernel_rfl) 300 ?_) | fail))
  ((conv => whnf); refine CallY.trip [0] (hps (adv r) hP') (by kernel_rfl) leA qa (by exact qb rfl) (by exact qb rfl) ?_)
  (conv => whnf)
  refine CallY.con (qgo 5 a (qbr ts part (adv r)).1) (by rfl) leA ?_
  ((conv => whnf); refine AltG.far 5 [2] (by kernel_rfl) farA (EndG.go ?_))
  ((conv => whnf); refine ⟨(k, binT 5 a (qbr ts part (adv r)).1, (qbr ts part (adv r)).2), ⟨hP'.step (hrs _ hP'.at_), hj, by dsimp only; omega⟩, ⟨qa, qa⟩, ⟨qa, qa⟩, ?_⟩; (first | omega | (dsimp only; omega) | skip))
 ·have hc : ¬ ((sumC ts) r = true) := by simp [qdj, sumC, hb]
  rw [qaj, if_neg hc] at hj
  rw [← hj]
  exact ⟨Le.refl _, qa⟩
theorem jkg (ht : ToksOk ts) {part : Ps → Tr × Ps} (hr : Runs ts part) (hp : ∀ q, Pre ts n q → RdT ts 124 part q) : ∀ q, Pre ts n q → RdT ts 121 (qbp ts part) q := by
 intro p h
 have h2 := ht.len
 have hps := jkf ht hr hp
 have hrs := qso ht hr
 have hs := hrs p h.at_
 have hq := h.step hs
 refine zM {} 300 Try.func121 (fun c0 rdb mpb => ?_)
 ((conv => whnf); refine zT 300 [0] (hps p h) qa ?_)
 ((conv => whnf); refine zT 300 [0] (qak ht hq.at_ sLt) qa ?_)
 (repeat' ((conv => whnf); first | refine Ob.auto ?_ | (apply zB <;> intro hb <;> (try simp [-zd] at hb) <;> try (exfalso; omega))))
 ·have e1 : took ts (sumF ts part p).2 sLt = adv (sumF ts part p).2 := if_pos hb
  have hP' := hq.step (qg ht hq.at_ hb)
  have e2 : qbp ts part p = (binT 3 (sumF ts part p).1 (sumF ts part (adv (sumF ts part p).2)).1, (sumF ts part (adv (sumF ts part p).2)).2) := if_pos hb
  rw [e1, e2]
  (repeat' ((conv => whnf); first | (refine qas (fun _ => rfl) (by kernel_rfl) 300 ?_) | fail))
  ((conv => whnf); refine CallY.trip [0] (hps _ hP') (by kernel_rfl) leA qa (by exact qb rfl) (by exact qb rfl) ?_)
  (conv => whnf)
  refine CallY.con (qgo 3 (sumF ts part p).1 (sumF ts part (adv (sumF ts part p).2)).1) (by rfl) leA ?_
  ((conv => whnf); refine AltG.far 4 [2] (by kernel_rfl) farA (EndG.go ?_))
  (repeat' ((conv => whnf); first | refine Ob.auto ?_ | fail))
  exact ⟨Le.refl _, qa⟩
 ·have e1 : took ts (sumF ts part p).2 sLt = (sumF ts part p).2 := if_neg (by rw [hb]; decide)
  have e2 : qbp ts part p = sumF ts part p := if_neg (by rw [hb]; decide)
  rw [e1, e2]
  exact ⟨Le.refl _, qa⟩
theorem jkh (ht : ToksOk ts) {part : Ps → Tr × Ps} (hr : Runs ts part) (hp : ∀ q, Pre ts n q → RdT ts 124 part q) : ∀ q, Pre ts n q → RdT ts 117 (qcu ts part) q := by
 intro p h
 have h2 := ht.len
 have hps := jkg ht hr hp
 have hrs := qsp ht hr
 have hs := hrs p h.at_
 have hq := h.step hs
 refine zM {} 300 Try.func117 (fun c0 rdb mpb => ?_)
 ((conv => whnf); refine zT 300 [0] (hps p h) qa ?_)
 ((conv => whnf); refine zT 300 [0] (qak ht hq.at_ sEq2) qa ?_)
 (repeat' ((conv => whnf); first | refine Ob.auto ?_ | (apply zB <;> intro hb <;> (try simp [-zd] at hb) <;> try (exfalso; omega))))
 ·have e1 : took ts (qbp ts part p).2 sEq2 = adv (qbp ts part p).2 := if_pos hb
  have hP' := hq.step (qg ht hq.at_ hb)
  have e2 : qcu ts part p = (binT 2 (qbp ts part p).1 (qbp ts part (adv (qbp ts part p).2)).1, (qbp ts part (adv (qbp ts part p).2)).2) := if_pos hb
  rw [e1, e2]
  (repeat' ((conv => whnf); first | (refine qas (fun _ => rfl) (by kernel_rfl) 300 ?_) | fail))
  ((conv => whnf); refine CallY.trip [0] (hps _ hP') (by kernel_rfl) leA qa (by exact qb rfl) (by exact qb rfl) ?_)
  (conv => whnf)
  refine CallY.con (qgo 2 (qbp ts part p).1 (qbp ts part (adv (qbp ts part p).2)).1) (by rfl) leA ?_
  ((conv => whnf); refine AltG.far 4 [2] (by kernel_rfl) farA (EndG.go ?_))
  (repeat' ((conv => whnf); first | refine Ob.auto ?_ | fail))
  exact ⟨Le.refl _, qa⟩
 ·have e1 : took ts (qbp ts part p).2 sEq2 = (qbp ts part p).2 := if_neg (by rw [hb]; decide)
  have e2 : qcu ts part p = qbp ts part p := if_neg (by rw [hb]; decide)
  rw [e1, e2]
  exact ⟨Le.refl _, qa⟩
theorem jki (ht : ToksOk ts) {part : Ps → Tr × Ps} (hr : Runs ts part) (hp : ∀ q, Pre ts n q → RdT ts 124 part q) : ∀ q, Pre ts n q → RdT ts 111 (andF ts part) q := by
 intro p h
 have h2 := ht.len
 have hps := jkh ht hr hp
 have hrs := qmp ht hr
 have hs := hrs p h.at_
 have hq := h.step hs
 refine zM {} 300 Try.func111 (fun c0 rdb mpb => ?_)
 ((conv => whnf); refine zT 300 [0] (hps p h) qa ?_)
 ((conv => whnf); refine qx (fun _ => rfl) 300 1 (fun _ : Nat × Tr × Ps => []) (fun g => [(2, .box 89 g.2.1.cells), (0, pso ts g.2.2)]) (fun g => Pre ts n g.2.2 ∧ qaj (qcu ts part) (fun p => sees ts p qml) (fun _ => 1) g.1 g.2.1 g.2.2 = andF ts part p ∧ (ts.length : Int) - g.2.2.at_ ≤ g.1) (fun g => ((ts.length : Int) - g.2.2.at_).toNat) ((ts.length, (qcu ts part p).1, (qcu ts part p).2)) (⟨hq, rfl, by have := hq.at_.lo; simp only; omega⟩) qa qa (fun _ => rfl) (by kernel_rfl) ?_; (conv => whnf))
 rintro ⟨k, a, r⟩ ⟨hP, hj, hk⟩
 simp only at hP hj hk
 have h0 := hP.at_.lo
 have h1 := hP.at_.hi
 obtain ⟨k, rfl⟩ : ∃ k', k = k' + 1 := ⟨k - 1, by omega⟩
 ((conv => whnf); refine zT 300 [0] (qak ht hP.at_ qml) qa ?_)
 (repeat' ((conv => whnf); first | refine Ob.auto ?_ | (apply zB <;> intro hb <;> (try simp [-zd] at hb) <;> try (exfalso; omega))))
 ·have e1 : took ts r qml = adv r := if_pos hb
  have hst := qg ht hP.at_ hb
  have hP' := hP.step hst
  rw [qaj, if_pos hb] at hj
  have hle := (hrs _ hP'.at_).le
  have hle' : r.at_ + 1 ≤ (qcu ts part (adv r)).2.at_ := hle
  dsimp only
  rw [e1]
  (repeat' ((conv => whnf); first | (refine qas (fun _ => rfl) (by kernel_rfl) 300 ?_) | fail))
  ((conv => whnf); refine CallY.trip [0] (hps (adv r) hP') (by kernel_rfl) leA qa (by exact qb rfl) (by exact qb rfl) ?_)
  (conv => whnf)
  refine CallY.con (qgo 1 a (qcu ts part (adv r)).1) (by rfl) leA ?_
  ((conv => whnf); refine AltG.far 4 [2] (by kernel_rfl) farA (EndG.go ?_))
  ((conv => whnf); refine ⟨(k, binT 1 a (qcu ts part (adv r)).1, (qcu ts part (adv r)).2), ⟨hP'.step (hrs _ hP'.at_), hj, by dsimp only; omega⟩, ⟨qa, qa⟩, ⟨qa, qa⟩, ?_⟩; (first | omega | (dsimp only; omega) | skip))
 ·have e1 : took ts r qml = r := if_neg (by rw [hb]; decide)
  rw [qaj, if_neg (by rw [hb]; decide)] at hj
  rw [← hj]
  dsimp only
  rw [e1]
  exact ⟨Le.refl _, qa⟩
theorem qyx (ht : ToksOk ts) {part : Ps → Tr × Ps} (hr : Runs ts part) (hp : ∀ q, Pre ts n q → RdT ts 124 part q) : ∀ q, Pre ts n q → RdT ts 98 (qdk ts part) q := by
 intro p h
 have h2 := ht.len
 have hps := jki ht hr hp
 have hrs := qmq ht hr
 have hs := hrs p h.at_
 have hq := h.step hs
 refine zM {} 300 Try.func98 (fun c0 rdb mpb => ?_)
 ((conv => whnf); refine zT 300 [0] (hps p h) qa ?_)
 ((conv => whnf); refine qx (fun _ => rfl) 300 1 (fun _ : Nat × Tr × Ps => []) (fun g => [(2, .box 89 g.2.1.cells), (0, pso ts g.2.2)]) (fun g => Pre ts n g.2.2 ∧ qaj (andF ts part) (fun p => sees ts p sOr2) (fun _ => 0) g.1 g.2.1 g.2.2 = qdk ts part p ∧ (ts.length : Int) - g.2.2.at_ ≤ g.1) (fun g => ((ts.length : Int) - g.2.2.at_).toNat) ((ts.length, (andF ts part p).1, (andF ts part p).2)) (⟨hq, rfl, by have := hq.at_.lo; simp only; omega⟩) qa qa (fun _ => rfl) (by kernel_rfl) ?_; (conv => whnf))
 rintro ⟨k, a, r⟩ ⟨hP, hj, hk⟩
 simp only at hP hj hk
 have h0 := hP.at_.lo
 have h1 := hP.at_.hi
 obtain ⟨k, rfl⟩ : ∃ k', k = k' + 1 := ⟨k - 1, by omega⟩
 ((conv => whnf); refine zT 300 [0] (qak ht hP.at_ sOr2) qa ?_)
 (repeat' ((conv => whnf); first | refine Ob.auto ?_ | (apply zB <;> intro hb <;> (try simp [-zd] at hb) <;> try (exfalso; omega))))
 ·have e1 : took ts r sOr2 = adv r := if_pos hb
  have hst := qg ht hP.at_ hb
  have hP' := hP.step hst
  rw [qaj, if_pos hb] at hj
  have hle := (hrs _ hP'.at_).le
  have hle' : r.at_ + 1 ≤ (andF ts part (adv r)).2.at_ := hle
  dsimp only
  rw [e1]
  (repeat' ((conv => whnf); first | (refine qas (fun _ => rfl) (by kernel_rfl) 300 ?_) | fail))
  ((conv => whnf); refine CallY.trip [0] (hps (adv r) hP') (by kernel_rfl) leA qa (by exact qb rfl) (by exact qb rfl) ?_)
  (conv => whnf)
  refine CallY.con (qgo 0 a (andF ts part (adv r)).1) (by rfl) leA ?_
  ((conv => whnf); refine AltG.far 4 [2] (by kernel_rfl) farA (EndG.go ?_))
  ((conv => whnf); refine ⟨(k, binT 0 a (andF ts part (adv r)).1, (andF ts part (adv r)).2), ⟨hP'.step (hrs _ hP'.at_), hj, by dsimp only; omega⟩, ⟨qa, qa⟩, ⟨qa, qa⟩, ?_⟩; (first | omega | (dsimp only; omega) | skip))
 ·have e1 : took ts r sOr2 = r := if_neg (by rw [hb]; decide)
  rw [qaj, if_neg (by rw [hb]; decide)] at hj
  rw [← hj]
  dsimp only
  rw [e1]
  exact ⟨Le.refl _, qa⟩
end
end Go.Proofs.Ytdoaagphhjggbaa
