/- Some texts of the library, one behind the other. -/
import Derived.Test.YtdoaagphhjggbaaGreatQ7
import Derived.Test.YtdoaagphhjggbaaGreatQ2
section
namespace Go.Proofs.YtdoaagphhjggbaaGreat
open List renaming getD_eq_getElem?_getD → zd
open Go Go.Sx Go.RowKit Go.St Pa
set_option maxRecDepth 100000
set_option maxHeartbeats 4000000
structure Pre (ts : List Lx.Tok) (n : Nat) (p : Ps) : Prop where
 at_ : AtOk ts p
 deep : 0 ≤ p.deep ∧ p.deep ≤ p.at_ + 1
 left : (ts.length : Int) - p.at_ ≤ n
section
variable {ts : List Lx.Tok} {p q : Ps} {n : Nat}
theorem Pre.step (h : Pre ts n p) (k : Step ts p q) : Pre ts n q :=
 ⟨k.ok h.at_, by have := h.deep; have := k.deep; have := k.le; omega, by have := h.left; have := k.le; omega⟩
abbrev RdT (ts : List Lx.Tok) (f : FuncId) (F : Ps → Tr × Ps) (p : Ps) : Prop := Trip Tryz.prog f [.ptr 0 0] [pso ts p] (F p).1.av [(0, pso ts (F p).2)] 1
theorem jnv (a b : Tr) : Le (.slc 6 2 (chop 6 (a.cells ++ b.cells))) (qlv [a, b]) := Le.slc rfl (fun i hi => by
 match i, hi with
 | 0, _ => exact (Tr.cellsL_get [a, b] 0 (Nat.zero_lt_succ _)).symm
 | 1, _ => exact (Tr.cellsL_get [a, b] 1 (Nat.lt_succ_self _)).symm)
theorem qhw (sg : Int) (a b : Tr) : Con Tryz.prog 141 [iv sg, a.av, b.av] (binT sg a b).av := by
 refine zK {} 300 Tryz.func141 (fun c0 rdb => ?_)
 (repeat' ((conv => whnf); first | refine Ob.auto ?_ | fail))
 refine Le.agg ⟨Le.refl _, Le.nils _ _, Le.slc rfl (fun i hi => ?_), Le.refl _, Le.refl _, jnv a b, trivial⟩
 obtain rfl : i = 0 := by omega
 rfl
theorem jnw (ht : ToksOk ts) {part : Ps → Tr × Ps} (hr : Runs ts part) (hp : ∀ q, Pre ts n q → RdT ts 153 part q) : ∀ q, Pre ts n q → RdT ts 152 (qcg ts part) q := by
 intro p h
 have h2 := ht.len
 have hps := hp
 have hrs := hr
 have hs := hrs p h.at_
 have hq := h.step hs
 refine zM {} 300 Tryz.func152 (fun c0 rdb mpb => ?_)
 ((conv => whnf); refine zT 300 [0] (hps p h) qa ?_)
 ((conv => whnf); refine qj (fun _ => rfl) 300 1 (fun _ : Nat × Tr × Ps => []) (fun g => [(2, .box 106 g.2.1.cells), (0, pso ts g.2.2)]) (fun g => Pre ts n g.2.2 ∧ qau (part) (qea ts) (qiw ts) g.1 g.2.1 g.2.2 = qcg ts part p ∧ (ts.length : Int) - g.2.2.at_ ≤ g.1) (fun g => ((ts.length : Int) - g.2.2.at_).toNat) ((ts.length, (part p).1, (part p).2)) (⟨hq, rfl, by have := hq.at_.lo; simp only; omega⟩) qa qa (fun _ => rfl) (by kernel_rfl) ?_; (conv => whnf))
 rintro ⟨k, a, r⟩ ⟨hP, hj, hk⟩
 simp only at hP hj hk
 have h0 := hP.at_.lo
 have h1 := hP.at_.hi
 obtain ⟨k, rfl⟩ : ∃ k', k = k' + 1 := ⟨k - 1, by omega⟩
 (repeat' ((conv => whnf); first | refine Ob.auto ?_ | (refine Ob.intro (by (exact qdv (by dsimp only; omega) (by dsimp only; omega))) ?_) | refine zE 300 (qfd hP.at_ _) ?_ | refine zF 300 (fun hg => qfd hP.at_ _) ?_ | (apply zB <;> intro hb <;> (try simp [-zd] at hb) <;> try (exfalso; omega))))
 ·have hc : (qea ts) r = true := by simp [qea, sumC, *]
  have hsg : (qiw ts) r = 6 := by unfold qiw; rw [if_pos hb]
  have hst := qh ht hP.at_ hb
  have hP' := hP.step hst
  rw [qau, if_pos hc, hsg] at hj
  have hle := (hrs _ hP'.at_).le
  have hle' : r.at_ + 1 ≤ (part (adv r)).2.at_ := hle
  (repeat' ((conv => whnf); first | (refine qbd (fun _ => rfl) (by kernel_rfl) 300 ?_) | fail))
  ((conv => whnf); refine CallY.trip [0] (hps (adv r) hP') (by kernel_rfl) leA qa (by exact qb rfl) (by exact qb rfl) ?_)
  (conv => whnf)
  refine CallY.con (qhw 6 a (part (adv r)).1) (by rfl) leA ?_
  ((conv => whnf); refine AltG.far 5 [2] (by kernel_rfl) farA (EndG.go ?_))
  ((conv => whnf); refine ⟨(k, binT 6 a (part (adv r)).1, (part (adv r)).2), ⟨hP'.step (hrs _ hP'.at_), hj, by dsimp only; omega⟩, ⟨qa, qa⟩, ⟨qa, qa⟩, ?_⟩; (first | omega | (dsimp only; omega) | skip))
 ·have hc : (qea ts) r = true := by simp [qea, sumC, *]
  have hsg : (qiw ts) r = 7 := by unfold qiw; rw [if_neg (by simp [*]), if_pos hb]
  have hst := qh ht hP.at_ hb
  have hP' := hP.step hst
  rw [qau, if_pos hc, hsg] at hj
  have hle := (hrs _ hP'.at_).le
  have hle' : r.at_ + 1 ≤ (part (adv r)).2.at_ := hle
  (repeat' ((conv => whnf); first | (refine qbd (fun _ => rfl) (by kernel_rfl) 300 ?_) | fail))
  ((conv => whnf); refine CallY.trip [0] (hps (adv r) hP') (by kernel_rfl) leA qa (by exact qb rfl) (by exact qb rfl) ?_)
  (conv => whnf)
  refine CallY.con (qhw 7 a (part (adv r)).1) (by rfl) leA ?_
  ((conv => whnf); refine AltG.far 5 [2] (by kernel_rfl) farA (EndG.go ?_))
  ((conv => whnf); refine ⟨(k, binT 7 a (part (adv r)).1, (part (adv r)).2), ⟨hP'.step (hrs _ hP'.at_), hj, by dsimp only; omega⟩, ⟨qa, qa⟩, ⟨qa, qa⟩, ?_⟩; (first | omega | (dsimp only; omega) | skip))
 ·have hpct : sees ts r sPct = true := by simp_all
  have hc : qea ts r = true := by unfold qea; rw [hpct]; simp
  have hsg : (qiw ts) r = 8 := by unfold qiw; rw [if_neg (by simp [*]), if_neg (by simp [*])]
  have hst := qh ht hP.at_ hpct
  have hP' := hP.step hst
  rw [qau, if_pos hc, hsg] at hj
  have hle := (hrs _ hP'.at_).le
  have hle' : r.at_ + 1 ≤ (part (adv r)).2.at_ := hle
  (repeat' ((conv => whnf); first | (refine qbd (fun _ => rfl) (by kernel_rfl) 300 ?_) | fail))
  ((conv => whnf); refine CallY.trip [0] (hps (adv r) hP') (by kernel_rfl) leA qa (by exact qb rfl) (by exact qb rfl) ?_)
  (conv => whnf)
  refine CallY.con (qhw 8 a (part (adv r)).1) (by rfl) leA ?_
  ((conv => whnf); refine AltG.far 5 [2] (by kernel_rfl) farA (EndG.go ?_))
  ((conv => whnf); refine ⟨(k, binT 8 a (part (adv r)).1, (part (adv r)).2), ⟨hP'.step (hrs _ hP'.at_), hj, by dsimp only; omega⟩, ⟨qa, qa⟩, ⟨qa, qa⟩, ?_⟩; (first | omega | (dsimp only; omega) | skip))
 ·have hc : ¬ ((qea ts) r = true) := by simp [qea, sumC, hb]
  rw [qau, if_neg hc] at hj
  rw [← hj]
  exact ⟨Le.refl _, qa⟩
theorem jnx (ht : ToksOk ts) {part : Ps → Tr × Ps} (hr : Runs ts part) (hp : ∀ q, Pre ts n q → RdT ts 153 part q) : ∀ q, Pre ts n q → RdT ts 151 (sumF ts part) q := by
 intro p h
 have h2 := ht.len
 have hps := jnw ht hr hp
 have hrs := qnx ht hr
 have hs := hrs p h.at_
 have hq := h.step hs
 refine zM {} 300 Tryz.func151 (fun c0 rdb mpb => ?_)
 ((conv => whnf); refine zT 300 [0] (hps p h) qa ?_)
 ((conv => whnf); refine qj (fun _ => rfl) 300 1 (fun _ : Nat × Tr × Ps => []) (fun g => [(2, .box 106 g.2.1.cells), (0, pso ts g.2.2)]) (fun g => Pre ts n g.2.2 ∧ qau (qcg ts part) (sumC ts) (sumS ts) g.1 g.2.1 g.2.2 = sumF ts part p ∧ (ts.length : Int) - g.2.2.at_ ≤ g.1) (fun g => ((ts.length : Int) - g.2.2.at_).toNat) ((ts.length, (qcg ts part p).1, (qcg ts part p).2)) (⟨hq, rfl, by have := hq.at_.lo; simp only; omega⟩) qa qa (fun _ => rfl) (by kernel_rfl) ?_; (conv => whnf))
 rintro ⟨k, a, r⟩ ⟨hP, hj, hk⟩
 simp only at hP hj hk
 have h0 := hP.at_.lo
 have h1 := hP.at_.hi
 obtain ⟨k, rfl⟩ : ∃ k', k = k' + 1 := ⟨k - 1, by omega⟩
 (repeat' ((conv => whnf); first | refine Ob.auto ?_ | (refine Ob.intro (by (exact qdv (by dsimp only; omega) (by dsimp only; omega))) ?_) | refine zE 300 (qfd hP.at_ _) ?_ | refine zF 300 (fun hg => qfd hP.at_ _) ?_ | (apply zB <;> intro hb <;> (try simp [-zd] at hb) <;> try (exfalso; omega))))
 ·have hc : (sumC ts) r = true := by simp [qea, sumC, *]
  have hsg : (sumS ts) r = 4 := by unfold sumS; rw [if_pos hb]
  have hst := qh ht hP.at_ hb
  have hP' := hP.step hst
  rw [qau, if_pos hc, hsg] at hj
  have hle := (hrs _ hP'.at_).le
  have hle' : r.at_ + 1 ≤ (qcg ts part (adv r)).2.at_ := hle
  (repeat' ((conv => whnf); first | (refine qbd (fun _ => rfl) (by kernel_rfl) 300 ?_) | fail))
  ((conv => whnf); refine CallY.trip [0] (hps (adv r) hP') (by kernel_rfl) leA qa (by exact qb rfl) (by exact qb rfl) ?_)
  (conv => whnf)
  refine CallY.con (qhw 4 a (qcg ts part (adv r)).1) (by rfl) leA ?_
  ((conv => whnf); refine AltG.far 5 [2] (by kernel_rfl) farA (EndG.go ?_))
  ((conv => whnf); refine ⟨(k, binT 4 a (qcg ts part (adv r)).1, (qcg ts part (adv r)).2), ⟨hP'.step (hrs _ hP'.at_), hj, by dsimp only; omega⟩, ⟨qa, qa⟩, ⟨qa, qa⟩, ?_⟩; (first | omega | (dsimp only; omega) | skip))
 ·have hmin : sees ts r qfc = true := by simp_all
  have hc : sumC ts r = true := by unfold sumC; rw [hmin]; simp
  have hsg : (sumS ts) r = 5 := by unfold sumS; rw [if_neg (by simp [*])]
  have hst := qh ht hP.at_ hmin
  have hP' := hP.step hst
  rw [qau, if_pos hc, hsg] at hj
  have hle := (hrs _ hP'.at_).le
  have hle' : r.at_ + 1 ≤ (qcg ts part (adv r)).2.at_ := hle
  (repeat' ((conv => whnf); first | (refine qbd (fun _ => rfl) (by kernel_rfl) 300 ?_) | fail))
  ((conv => whnf); refine CallY.trip [0] (hps (adv r) hP') (by kernel_rfl) leA qa (by exact qb rfl) (by exact qb rfl) ?_)
  (conv => whnf)
  refine CallY.con (qhw 5 a (qcg ts part (adv r)).1) (by rfl) leA ?_
  ((conv => whnf); refine AltG.far 5 [2] (by kernel_rfl) farA (EndG.go ?_))
  ((conv => whnf); refine ⟨(k, binT 5 a (qcg ts part (adv r)).1, (qcg ts part (adv r)).2), ⟨hP'.step (hrs _ hP'.at_), hj, by dsimp only; omega⟩, ⟨qa, qa⟩, ⟨qa, qa⟩, ?_⟩; (first | omega | (dsimp only; omega) | skip))
 ·have hc : ¬ ((sumC ts) r = true) := by simp [qea, sumC, hb]
  rw [qau, if_neg hc] at hj
  rw [← hj]
  exact ⟨Le.refl _, qa⟩
theorem jny (ht : ToksOk ts) {part : Ps → Tr × Ps} (hr : Runs ts part) (hp : ∀ q, Pre ts n q → RdT ts 153 part q) : ∀ q, Pre ts n q → RdT ts 150 (qcc ts part) q := by
 intro p h
 have h2 := ht.len
 have hps := jnx ht hr hp
 have hrs := quu ht hr
 have hs := hrs p h.at_
 have hq := h.step hs
 refine zM {} 300 Tryz.func150 (fun c0 rdb mpb => ?_)
 ((conv => whnf); refine zT 300 [0] (hps p h) qa ?_)
 ((conv => whnf); refine zT 300 [0] (qav ht hq.at_ sLt) qa ?_)
 (repeat' ((conv => whnf); first | refine Ob.auto ?_ | (apply zB <;> intro hb <;> (try simp [-zd] at hb) <;> try (exfalso; omega))))
 ·have e1 : took ts (sumF ts part p).2 sLt = adv (sumF ts part p).2 := if_pos hb
  have hP' := hq.step (qh ht hq.at_ hb)
  have e2 : qcc ts part p = (binT 3 (sumF ts part p).1 (sumF ts part (adv (sumF ts part p).2)).1, (sumF ts part (adv (sumF ts part p).2)).2) := if_pos hb
  rw [e1, e2]
  (repeat' ((conv => whnf); first | (refine qbd (fun _ => rfl) (by kernel_rfl) 300 ?_) | fail))
  ((conv => whnf); refine CallY.trip [0] (hps _ hP') (by kernel_rfl) leA qa (by exact qb rfl) (by exact qb rfl) ?_)
  (conv => whnf)
  refine CallY.con (qhw 3 (sumF ts part p).1 (sumF ts part (adv (sumF ts part p).2)).1) (by rfl) leA ?_
  ((conv => whnf); refine AltG.far 4 [2] (by kernel_rfl) farA (EndG.go ?_))
  (repeat' ((conv => whnf); first | refine Ob.auto ?_ | fail))
  exact ⟨Le.refl _, qa⟩
 ·have e1 : took ts (sumF ts part p).2 sLt = (sumF ts part p).2 := if_neg (by rw [hb]; decide)
  have e2 : qcc ts part p = sumF ts part p := if_neg (by rw [hb]; decide)
  rw [e1, e2]
  exact ⟨Le.refl _, qa⟩
theorem jnz (ht : ToksOk ts) {part : Ps → Tr × Ps} (hr : Runs ts part) (hp : ∀ q, Pre ts n q → RdT ts 153 part q) : ∀ q, Pre ts n q → RdT ts 146 (qdm ts part) q := by
 intro p h
 have h2 := ht.len
 have hps := jny ht hr hp
 have hrs := quv ht hr
 have hs := hrs p h.at_
 have hq := h.step hs
 refine zM {} 300 Tryz.func146 (fun c0 rdb mpb => ?_)
 ((conv => whnf); refine zT 300 [0] (hps p h) qa ?_)
 ((conv => whnf); refine zT 300 [0] (qav ht hq.at_ sEq2) qa ?_)
 (repeat' ((conv => whnf); first | refine Ob.auto ?_ | (apply zB <;> intro hb <;> (try simp [-zd] at hb) <;> try (exfalso; omega))))
 ·have e1 : took ts (qcc ts part p).2 sEq2 = adv (qcc ts part p).2 := if_pos hb
  have hP' := hq.step (qh ht hq.at_ hb)
  have e2 : qdm ts part p = (binT 2 (qcc ts part p).1 (qcc ts part (adv (qcc ts part p).2)).1, (qcc ts part (adv (qcc ts part p).2)).2) := if_pos hb
  rw [e1, e2]
  (repeat' ((conv => whnf); first | (refine qbd (fun _ => rfl) (by kernel_rfl) 300 ?_) | fail))
  ((conv => whnf); refine CallY.trip [0] (hps _ hP') (by kernel_rfl) leA qa (by exact qb rfl) (by exact qb rfl) ?_)
  (conv => whnf)
  refine CallY.con (qhw 2 (qcc ts part p).1 (qcc ts part (adv (qcc ts part p).2)).1) (by rfl) leA ?_
  ((conv => whnf); refine AltG.far 4 [2] (by kernel_rfl) farA (EndG.go ?_))
  (repeat' ((conv => whnf); first | refine Ob.auto ?_ | fail))
  exact ⟨Le.refl _, qa⟩
 ·have e1 : took ts (qcc ts part p).2 sEq2 = (qcc ts part p).2 := if_neg (by rw [hb]; decide)
  have e2 : qdm ts part p = qcc ts part p := if_neg (by rw [hb]; decide)
  rw [e1, e2]
  exact ⟨Le.refl _, qa⟩
theorem joa (ht : ToksOk ts) {part : Ps → Tr × Ps} (hr : Runs ts part) (hp : ∀ q, Pre ts n q → RdT ts 153 part q) : ∀ q, Pre ts n q → RdT ts 140 (andF ts part) q := by
 intro p h
 have h2 := ht.len
 have hps := jnz ht hr hp
 have hrs := qny ht hr
 have hs := hrs p h.at_
 have hq := h.step hs
 refine zM {} 300 Tryz.func140 (fun c0 rdb mpb => ?_)
 ((conv => whnf); refine zT 300 [0] (hps p h) qa ?_)
 ((conv => whnf); refine qj (fun _ => rfl) 300 1 (fun _ : Nat × Tr × Ps => []) (fun g => [(2, .box 106 g.2.1.cells), (0, pso ts g.2.2)]) (fun g => Pre ts n g.2.2 ∧ qau (qdm ts part) (fun p => sees ts p qnu) (fun _ => 1) g.1 g.2.1 g.2.2 = andF ts part p ∧ (ts.length : Int) - g.2.2.at_ ≤ g.1) (fun g => ((ts.length : Int) - g.2.2.at_).toNat) ((ts.length, (qdm ts part p).1, (qdm ts part p).2)) (⟨hq, rfl, by have := hq.at_.lo; simp only; omega⟩) qa qa (fun _ => rfl) (by kernel_rfl) ?_; (conv => whnf))
 rintro ⟨k, a, r⟩ ⟨hP, hj, hk⟩
 simp only at hP hj hk
 have h0 := hP.at_.lo
 have h1 := hP.at_.hi
 obtain ⟨k, rfl⟩ : ∃ k', k = k' + 1 := ⟨k - 1, by omega⟩
 ((conv => whnf); refine zT 300 [0] (qav ht hP.at_ qnu) qa ?_)
 (repeat' ((conv => whnf); first | refine Ob.auto ?_ | (apply zB <;> intro hb <;> (try simp [-zd] at hb) <;> try (exfalso; omega))))
 ·have e1 : took ts r qnu = adv r := if_pos hb
  have hst := qh ht hP.at_ hb
  have hP' := hP.step hst
  rw [qau, if_pos hb] at hj
  have hle := (hrs _ hP'.at_).le
  have hle' : r.at_ + 1 ≤ (qdm ts part (adv r)).2.at_ := hle
  dsimp only
  rw [e1]
  (repeat' ((conv => whnf); first | (refine qbd (fun _ => rfl) (by kernel_rfl) 300 ?_) | fail))
  ((conv => whnf); refine CallY.trip [0] (hps (adv r) hP') (by kernel_rfl) leA qa (by exact qb rfl) (by exact qb rfl) ?_)
  (conv => whnf)
  refine CallY.con (qhw 1 a (qdm ts part (adv r)).1) (by rfl) leA ?_
  ((conv => whnf); refine AltG.far 4 [2] (by kernel_rfl) farA (EndG.go ?_))
  ((conv => whnf); refine ⟨(k, binT 1 a (qdm ts part (adv r)).1, (qdm ts part (adv r)).2), ⟨hP'.step (hrs _ hP'.at_), hj, by dsimp only; omega⟩, ⟨qa, qa⟩, ⟨qa, qa⟩, ?_⟩; (first | omega | (dsimp only; omega) | skip))
 ·have e1 : took ts r qnu = r := if_neg (by rw [hb]; decide)
  rw [qau, if_neg (by rw [hb]; decide)] at hj
  rw [← hj]
  dsimp only
  rw [e1]
  exact ⟨Le.refl _, qa⟩
theorem jbj (ht : ToksOk ts) {part : Ps → Tr × Ps} (hr : Runs ts part) (hp : ∀ q, Pre ts n q → RdT ts 153 part q) : ∀ q, Pre ts n q → RdT ts 127 (qeb ts part) q := by
 intro p h
 have h2 := ht.len
 have hps := joa ht hr hp
 have hrs := qnz ht hr
 have hs := hrs p h.at_
 have hq := h.step hs
 refine zM {} 300 Tryz.func127 (fun c0 rdb mpb => ?_)
 ((conv => whnf); refine zT 300 [0] (hps p h) qa ?_)
 ((conv => whnf); refine qj (fun _ => rfl) 300 1 (fun _ : Nat × Tr × Ps => []) (fun g => [(2, .box 106 g.2.1.cells), (0, pso ts g.2.2)]) (fun g => Pre ts n g.2.2 ∧ qau (andF ts part) (fun p => sees ts p sOr2) (fun _ => 0) g.1 g.2.1 g.2.2 = qeb ts part p ∧ (ts.length : Int) - g.2.2.at_ ≤ g.1) (fun g => ((ts.length : Int) - g.2.2.at_).toNat) ((ts.length, (andF ts part p).1, (andF ts part p).2)) (⟨hq, rfl, by have := hq.at_.lo; simp only; omega⟩) qa qa (fun _ => rfl) (by kernel_rfl) ?_; (conv => whnf))
 rintro ⟨k, a, r⟩ ⟨hP, hj, hk⟩
 simp only at hP hj hk
 have h0 := hP.at_.lo
 have h1 := hP.at_.hi
 obtain ⟨k, rfl⟩ : ∃ k', k = k' + 1 := ⟨k - 1, by omega⟩
 ((conv => whnf); refine zT 300 [0] (qav ht hP.at_ sOr2) qa ?_)
 (repeat' ((conv => whnf); first | refine Ob.auto ?_ | (apply zB <;> intro hb <;> (try simp [-zd] at hb) <;> try (exfalso; omega))))
 ·have e1 : took ts r sOr2 = adv r := if_pos hb
  have hst := qh ht hP.at_ hb
  have hP' := hP.step hst
  rw [qau, if_pos hb] at hj
  have hle := (hrs _ hP'.at_).le
  have hle' : r.at_ + 1 ≤ (andF ts part (adv r)).2.at_ := hle
  dsimp only
  rw [e1]
  (repeat' ((conv => whnf); first | (refine qbd (fun _ => rfl) (by kernel_rfl) 300 ?_) | fail))
  ((conv => whnf); refine CallY.trip [0] (hps (adv r) hP') (by kernel_rfl) leA qa (by exact qb rfl) (by exact qb rfl) ?_)
  (conv => whnf)
  refine CallY.con (qhw 0 a (andF ts part (adv r)).1) (by rfl) leA ?_
  ((conv => whnf); refine AltG.far 4 [2] (by kernel_rfl) farA (EndG.go ?_))
  ((conv => whnf); refine ⟨(k, binT 0 a (andF ts part (adv r)).1, (andF ts part (adv r)).2), ⟨hP'.step (hrs _ hP'.at_), hj, by dsimp only; omega⟩, ⟨qa, qa⟩, ⟨qa, qa⟩, ?_⟩; (first | omega | (dsimp only; omega) | skip))
 ·have e1 : took ts r sOr2 = r := if_neg (by rw [hb]; decide)
  rw [qau, if_neg (by rw [hb]; decide)] at hj
  rw [← hj]
  dsimp only
  rw [e1]
  exact ⟨Le.refl _, qa⟩
end
section
variable {ts : List Lx.Tok} {p q : Ps} {n : Nat}
theorem jn {f : Nat → List AV} {v : Int} (h : f 0 = [iv v]) : Le (.slc 1 1 f) (ints [v]) := Le.slc rfl (fun i hi => by obtain rfl : i = 0 := (by omega); exact h)
theorem jv {f : Nat → List AV} {v : List UInt8} (h : f 0 = [.str v]) : Le (.slc 1 1 f) (strs [v]) := Le.slc rfl (fun i hi => by obtain rfl : i = 0 := (by omega); exact h)
theorem qaf {f : Nat → List AV} {v w : Int} (h : f 0 = [iv v]) (h' : f 1 = [iv w]) : Le (.slc 1 2 f) (ints [v, w]) := Le.slc rfl (fun i hi => by
 rcases (by omega : i = 0 ∨ i = 1) with rfl | rfl
 ·exact h
 ·exact h')
theorem qag {f : Nat → List AV} {v w : List UInt8} (h : f 0 = [.str v]) (h' : f 1 = [.str w]) : Le (.slc 1 2 f) (strs [v, w]) := Le.slc rfl (fun i hi => by
 rcases (by omega : i = 0 ∨ i = 1) with rfl | rfl
 ·exact h
 ·exact h')
theorem qah {f : Nat → List AV} {a : Tr} (h : f 0 = a.cells) : Le (.slc 6 1 f) (qlv [a]) := Le.slc rfl (fun i hi => by
 obtain rfl : i = 0 := (by omega)
 exact h.trans (Tr.cellsL_get [a] 0 (Nat.zero_lt_succ _)).symm)
theorem qai {f : Nat → List AV} {a b : Tr} (h : f 0 = a.cells) (h' : f 1 = b.cells) : Le (.slc 6 2 f) (qlv [a, b]) := Le.slc rfl (fun i hi => by
 rcases (by omega : i = 0 ∨ i = 1) with rfl | rfl
 ·exact h.trans (Tr.cellsL_get [a, b] 0 (Nat.zero_lt_succ _)).symm
 ·exact h'.trans (Tr.cellsL_get [a, b] 1 (Nat.lt_succ_self _)).symm)
theorem qaj {f : Nat → List AV} {a b c : Tr} (h : f 0 = a.cells) (h' : f 1 = b.cells) (h'' : f 2 = c.cells) : Le (.slc 6 3 f) (qlv [a, b, c]) := Le.slc rfl (fun i hi => by
 rcases (by omega : i = 0 ∨ i = 1 ∨ i = 2) with rfl | rfl | rfl
 ·exact h.trans (Tr.cellsL_get [a, b, c] 0 (Nat.zero_lt_succ _)).symm
 ·exact h'.trans (Tr.cellsL_get [a, b, c] 1 (Nat.succ_lt_succ (Nat.zero_lt_succ _))).symm
 ·exact h''.trans (Tr.cellsL_get [a, b, c] 2 (Nat.lt_succ_self _)).symm)
theorem job (ht : ToksOk ts) : ∀ n q, Pre ts n q → RdT ts 153 (qao ts n) q := by
 intro n
 induction n with
 | zero => intro p h; have := h.left; have := h.at_.hi; omega
 | succ n ih =>
  intro p h
  have h0 := h.at_.lo
  have h1 := h.at_.hi
  have h2 := ht.len
  have h3 := h.deep
  have h4 := h.left
  refine zM {} 600 Tryz.func153 (fun c0 rdb mpb => ?_)
  (repeat' ((conv => whnf); first | refine Ob.auto ?_ | refine zE 600 (qki h.at_ _) ?_ | refine zE 600 (qfx) ?_ | refine zF 600 (fun hg => qkg h.at_) ?_ | (apply zB <;> intro hb <;> (try simp [-zd] at hb) <;> try (exfalso; omega))))
  ·have e1 : qao ts (n + 1) p = (.mk 17 [] [numN ts p] (tk ts p).pos [], numP ts p) := if_pos hb
   rw [e1]
   (repeat' ((conv => whnf); first | (refine qbd (fun _ => rfl) (by kernel_rfl) 600 ?_) | fail))
   ((conv => whnf); refine CallY.trip [0] (qkh ht h.at_) (by kernel_rfl) leA qa (by exact qb rfl) (by exact qb rfl) ?_)
   (repeat' ((conv => whnf); first | refine Ob.auto ?_ | fail))
   ((conv => whnf); refine AltG.far 9 [2] (by kernel_rfl) farA (EndG.go ?_))
   (repeat' ((conv => whnf); first | refine Ob.auto ?_ | fail))
   (refine ⟨Le.agg ⟨Le.refl _, ?_, ?_, Le.refl _, Le.refl _, ?_, trivial⟩, qa⟩ <;> first | exact Le.nils _ _ | exact Le.refl _ | exact jn rfl | exact jv rfl | exact qah rfl | exact qaf rfl rfl | exact qag rfl rfl | exact qai rfl rfl | exact qaj rfl rfl rfl | exact qak (fun _ _ => rfl))
  have hn1 : ¬ (p.err = 0 ∧ (tk ts p).kind = 1) := fun h => hb h.1 h.2
  ((conv => whnf); refine zT 600 [0] (qav ht h.at_ kLen) qa ?_)
  (repeat' ((conv => whnf); first | (apply zB <;> intro hb <;> (try simp [-zd] at hb) <;> try (exfalso; omega))))
  ·have e1 : took ts p kLen = adv p := if_pos hb
   have e2 : qao ts (n + 1) p = (.mk 19 [qae ts (adv p)] [] (tk ts p).pos [], qe ts (adv p)) := (if_neg hn1).trans (if_pos hb)
   have hP' := h.step (qh ht h.at_ hb)
   rw [e1, e2]
   (repeat' ((conv => whnf); first | (refine qbd (fun _ => rfl) (by kernel_rfl) 600 ?_) | fail))
   ((conv => whnf); refine CallY.trip [0] (qhv ht hP'.at_) (by kernel_rfl) leA qa (by exact qb rfl) (by exact qb rfl) ?_)
   (repeat' ((conv => whnf); first | refine Ob.auto ?_ | fail))
   ((conv => whnf); refine AltG.far 9 [2] (by kernel_rfl) farA (EndG.go ?_))
   (repeat' ((conv => whnf); first | refine Ob.auto ?_ | fail))
   (refine ⟨Le.agg ⟨Le.refl _, ?_, ?_, Le.refl _, Le.refl _, ?_, trivial⟩, qa⟩ <;> first | exact Le.nils _ _ | exact Le.refl _ | exact jn rfl | exact jv rfl | exact qah rfl | exact qaf rfl rfl | exact qag rfl rfl | exact qai rfl rfl | exact qaj rfl rfl rfl | exact qak (fun _ _ => rfl))
  have e1 : took ts p kLen = p := if_neg (by rw [hb]; decide)
  rw [e1]
  (repeat' ((conv => whnf); first | refine Ob.auto ?_ | refine zE 600 (qfd h.at_ _) ?_ | refine zF 600 (fun hg => qfd h.at_ _) ?_ | (apply zB <;> intro hb <;> (try simp [-zd] at hb) <;> try (exfalso; omega))))
  ·have hsee : sees ts p qfc = true ∨ sees ts p qqz = true := .inl (by assumption)
   have hst : Step ts p (adv p) := by rcases hsee with hs | hs <;> exact qh ht h.at_ hs
   have hP' := h.step hst
   obtain ⟨i1, i2, i3, _⟩ := qcs hP'.at_
   have hQ : Pre ts n (inP ts (adv p)) := ⟨i1, by rw [i2, i3]; show 0 ≤ p.deep + 1 ∧ p.deep + 1 ≤ (p.at_ + 1) + 1; omega, by rw [i2]; show (ts.length : Int) - (p.at_ + 1) ≤ n; omega⟩
   have hQd : (inP ts (adv p)).deep = p.deep + 1 := i3
   have e2 : qao ts (n + 1) p = (.mk 20 [] [] (tk ts p).pos (ifOk (qao ts n) (inP ts (adv p))).1, outP (ifOk (qao ts n) (inP ts (adv p))).2) := by
    refine (if_neg hn1).trans ((if_neg (by simp [*])).trans ((if_pos hsee).trans ?_))
    rw [if_pos (by assumption)]
   have hdp := (qfw ht n _ i1).deep
   rw [e2]
   ((conv => whnf); refine zT 600 [0] (qlx hP'.at_ (show 0 ≤ p.deep ∧ p.deep ≤ 100000 by omega)) qa ?_)
   (repeat' ((conv => whnf); first | refine Ob.auto ?_ | refine zE 600 (qfx) ?_ | (apply zB <;> intro hb <;> (try simp [-zd] at hb) <;> try (exfalso; omega))))
   ·rw [ifOk, if_pos hb]
    (repeat' ((conv => whnf); first | (refine qbd (fun _ => rfl) (by kernel_rfl) 600 ?_) | fail))
    ((conv => whnf); refine CallY.trip [0] (ih _ hQ) (by kernel_rfl) leA qa (by exact qb rfl) (by exact qb rfl) ?_)
    (repeat' ((conv => whnf); first | refine Ob.auto ?_ | fail))
    ((conv => whnf); refine AltG.far 7 [2] (by kernel_rfl) farA (EndG.go ?_))
    (repeat' ((conv => whnf); first | refine Ob.auto ?_ | fail))
    (refine ⟨Le.agg ⟨Le.refl _, ?_, ?_, Le.refl _, Le.refl _, ?_, trivial⟩, qa⟩ <;> first | exact Le.nils _ _ | exact Le.refl _ | exact jn rfl | exact jv rfl | exact qah rfl | exact qaf rfl rfl | exact qag rfl rfl | exact qai rfl rfl | exact qaj rfl rfl rfl | exact qak (fun _ _ => rfl))
   ·rw [ifOk, if_neg hb]
    (refine ⟨Le.agg ⟨Le.refl _, ?_, ?_, Le.refl _, Le.refl _, ?_, trivial⟩, qa⟩ <;> first | exact Le.nils _ _ | exact Le.refl _ | exact jn rfl | exact jv rfl | exact qah rfl | exact qaf rfl rfl | exact qag rfl rfl | exact qai rfl rfl | exact qaj rfl rfl rfl | exact qak (fun _ _ => rfl))
  ·have hsee : sees ts p qfc = true ∨ sees ts p qqz = true := .inr (by simp_all)
   have hst : Step ts p (adv p) := by rcases hsee with hs | hs <;> exact qh ht h.at_ hs
   have hP' := h.step hst
   obtain ⟨i1, i2, i3, _⟩ := qcs hP'.at_
   have hQ : Pre ts n (inP ts (adv p)) := ⟨i1, by rw [i2, i3]; show 0 ≤ p.deep + 1 ∧ p.deep + 1 ≤ (p.at_ + 1) + 1; omega, by rw [i2]; show (ts.length : Int) - (p.at_ + 1) ≤ n; omega⟩
   have hQd : (inP ts (adv p)).deep = p.deep + 1 := i3
   have e2 : qao ts (n + 1) p = (.mk 21 [] [] (tk ts p).pos (ifOk (qao ts n) (inP ts (adv p))).1, outP (ifOk (qao ts n) (inP ts (adv p))).2) := by
    refine (if_neg hn1).trans ((if_neg (by simp [*])).trans ((if_pos hsee).trans ?_))
    rw [if_neg (by simp [*])]
   have hdp := (qfw ht n _ i1).deep
   rw [e2]
   ((conv => whnf); refine zT 600 [0] (qlx hP'.at_ (show 0 ≤ p.deep ∧ p.deep ≤ 100000 by omega)) qa ?_)
   (repeat' ((conv => whnf); first | refine Ob.auto ?_ | refine zE 600 (qfx) ?_ | (apply zB <;> intro hb <;> (try simp [-zd] at hb) <;> try (exfalso; omega))))
   ·rw [ifOk, if_pos hb]
    (repeat' ((conv => whnf); first | (refine qbd (fun _ => rfl) (by kernel_rfl) 600 ?_) | fail))
    ((conv => whnf); refine CallY.trip [0] (ih _ hQ) (by kernel_rfl) leA qa (by exact qb rfl) (by exact qb rfl) ?_)
    (repeat' ((conv => whnf); first | refine Ob.auto ?_ | fail))
    ((conv => whnf); refine AltG.far 7 [2] (by kernel_rfl) farA (EndG.go ?_))
    (repeat' ((conv => whnf); first | refine Ob.auto ?_ | fail))
    (refine ⟨Le.agg ⟨Le.refl _, ?_, ?_, Le.refl _, Le.refl _, ?_, trivial⟩, qa⟩ <;> first | exact Le.nils _ _ | exact Le.refl _ | exact jn rfl | exact jv rfl | exact qah rfl | exact qaf rfl rfl | exact qag rfl rfl | exact qai rfl rfl | exact qaj rfl rfl rfl | exact qak (fun _ _ => rfl))
   ·rw [ifOk, if_neg hb]
    (refine ⟨Le.agg ⟨Le.refl _, ?_, ?_, Le.refl _, Le.refl _, ?_, trivial⟩, qa⟩ <;> first | exact Le.nils _ _ | exact Le.refl _ | exact jn rfl | exact jv rfl | exact qah rfl | exact qaf rfl rfl | exact qag rfl rfl | exact qai rfl rfl | exact qaj rfl rfl rfl | exact qak (fun _ _ => rfl))
  have hn2 : ¬ (sees ts p qfc = true ∨ sees ts p qqz = true) := by simp [hb]
  ((conv => whnf); refine zT 600 [0] (qav ht h.at_ sLp) qa ?_)
  (repeat' ((conv => whnf); first | (apply zB <;> intro hb <;> (try simp [-zd] at hb) <;> try (exfalso; omega))))
  ·have e3 : took ts p sLp = adv p := if_pos (by assumption)
   have hst := qh ht h.at_ (by assumption : sees ts p sLp = true)
   have hP' := h.step hst
   obtain ⟨i1, i2, i3, _⟩ := qcs hP'.at_
   have hQ : Pre ts n (inP ts (adv p)) := ⟨i1, by rw [i2, i3]; show 0 ≤ p.deep + 1 ∧ p.deep + 1 ≤ (p.at_ + 1) + 1; omega, by rw [i2]; show (ts.length : Int) - (p.at_ + 1) ≤ n; omega⟩
   have hQd : (inP ts (adv p)).deep = p.deep + 1 := i3
   have e2 : qao ts (n + 1) p = ((if (inP ts (adv p)).err = 0 then (qeb ts (qao ts n) (inP ts (adv p))).1 else .mk 17 [] [] (tk ts p).pos []),
    must ts (outP (if (inP ts (adv p)).err = 0 then (qeb ts (qao ts n) (inP ts (adv p))).2 else inP ts (adv p))) sRp) :=
    (if_neg hn1).trans ((if_neg (by simp [*])).trans ((if_neg hn2).trans (if_pos (by assumption))))
   have hrp := qfw ht n
   have hse := qra ht hrp _ i1
   have hdp := hse.deep
   rw [e2, e3]
   ((conv => whnf); refine zT 600 [0] (qlx hP'.at_ (show 0 ≤ p.deep ∧ p.deep ≤ 100000 by omega)) qa ?_)
   (repeat' ((conv => whnf); first | refine Ob.auto ?_ | refine zE 600 (qfx) ?_ | (apply zB <;> intro hb <;> (try simp [-zd] at hb) <;> try (exfalso; omega))))
   ·rw [if_pos hb, if_pos hb]
    ((conv => whnf); refine zT 600 [0] (jbj ht hrp ih _ hQ) qa ?_)
    (repeat' ((conv => whnf); first | refine Ob.auto ?_ | fail))
    ((conv => whnf); refine zT 600 [0] (qay ht (p := outP (qeb ts (qao ts n) (inP ts (adv p))).2) ⟨(hse.ok i1).lo, (hse.ok i1).hi⟩ sRp) qa ?_)
    (repeat' ((conv => whnf); first | refine Ob.auto ?_ | fail))
    exact ⟨Le.refl _, qa⟩
   ·rw [if_neg hb, if_neg hb]
    ((conv => whnf); refine zT 600 [0] (qay ht (p := outP (inP ts (adv p))) ⟨i1.lo, i1.hi⟩ sRp) qa ?_)
    (repeat' ((conv => whnf); first | refine Ob.auto ?_ | fail))
    (refine ⟨Le.agg ⟨Le.refl _, ?_, ?_, Le.refl _, Le.refl _, ?_, trivial⟩, qa⟩ <;> first | exact Le.nils _ _ | exact Le.refl _ | exact jn rfl | exact jv rfl | exact qah rfl | exact qaf rfl rfl | exact qag rfl rfl | exact qai rfl rfl | exact qaj rfl rfl rfl | exact qak (fun _ _ => rfl))
  ·have e3 : took ts p sLp = p := if_neg (by simp [*])
   have e2 : qao ts (n + 1) p = (.mk 18 [qae ts p] [] (tk ts p).pos [], qe ts p) := (if_neg hn1).trans ((if_neg (by simp [*])).trans ((if_neg hn2).trans (if_neg (by simp [*]))))
   rw [e2, e3]
   (repeat' ((conv => whnf); first | (refine qbd (fun _ => rfl) (by kernel_rfl) 600 ?_) | fail))
   ((conv => whnf); refine CallY.trip [0] (qhv ht h.at_) (by kernel_rfl) leA qa (by exact qb rfl) (by exact qb rfl) ?_)
   (repeat' ((conv => whnf); first | refine Ob.auto ?_ | fail))
   ((conv => whnf); refine AltG.far 9 [2] (by kernel_rfl) farA (EndG.go ?_))
   (repeat' ((conv => whnf); first | refine Ob.auto ?_ | fail))
   (refine ⟨Le.agg ⟨Le.refl _, ?_, ?_, Le.refl _, Le.refl _, ?_, trivial⟩, qa⟩ <;> first | exact Le.nils _ _ | exact Le.refl _ | exact jn rfl | exact jv rfl | exact qah rfl | exact qaf rfl rfl | exact qag rfl rfl | exact qai rfl rfl | exact qaj rfl rfl rfl | exact qak (fun _ _ => rfl))
theorem e_rd (ht : ToksOk ts) (h : Pre ts ts.length p) : RdT ts 127 (eF ts) p := jbj ht (qfw ht _) (job ht _) p h
end
end Go.Proofs.YtdoaagphhjggbaaGreat
end
