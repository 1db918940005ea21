/- Contracts of the document's parser: expressions. -/
import Derived.Test.YtdoaagphhjggbaaQPa1
import Derived.Test.YtdoaagphhjggbaaQ2
namespace Go.Proofs.Ytdoaagphhjggbaa
open Go Go.Sx Go.RowKit Go.St Pa
set_option maxRecDepth 100000
set_option maxHeartbeats 4000000

structure Pre (ts : List Lx.Tok) (n : Nat) (p : Ps) : Prop where
  at_ : AtOk ts p
  deep : 0 ≤ p.deep ∧ p.deep ≤ p.at_ + 1
  left : (ts.length : Int) - p.at_ ≤ n

section
variable {ts : List Lx.Tok} {p q : Ps} {n : Nat}

theorem Pre.step (h : Pre ts n p) (k : Step ts p q) : Pre ts n q :=
  ⟨k.ok h.at_, by have := h.deep; have := k.deep; have := k.le; omega, by have := h.left; have := k.le; omega⟩

abbrev RdT (ts : List Lx.Tok) (f : FuncId) (F : Ps → Tr × Ps) (p : Ps) : Prop := Trip Try.prog f [.ptr 0 0] [pso ts p] (F p).1.av [(0, pso ts (F p).2)] 1

theorem kids_two (a b : Tr) : Le (.slc 6 2 (chop 6 (a.cells ++ b.cells))) (kidsV [a, b]) := Le.slc rfl (fun i hi => by
  match i, hi with
  | 0, _ => exact (Tr.cellsL_get [a, b] 0 (Nat.zero_lt_succ _)).symm
  | 1, _ => exact (Tr.cellsL_get [a, b] 1 (Nat.lt_succ_self _)).symm)

theorem bin_con (sg : Int) (a b : Tr) : Con Try.prog 112 [iv sg, a.av, b.av] (binT sg a b).av := by
  refine con_of_exec (T := tab Try.prog) (C := {}) 300 (fun _ => rfl) Try.func112 rfl (by kernel_rfl) (by kernel_rfl) (fun c0 rdb => ?_)
  (repeat' ((conv => whnf); first | refine zA ?_ | refine zO ?_ | refine Ob.auto ?_ | refine zD 300 ?_ | (refine Br.intro (fun hb => ?_) (fun hb => ?_) <;> (try simp [-List.getD_eq_getElem?_getD] at hb) <;> (try (exfalso; omega))) | refine Ob.intro ?_ ?_))
  refine Le.agg ⟨Le.refl _, Le.nils _ _, Le.slc rfl (fun i hi => ?_), Le.refl _, Le.refl _, kids_two a b, trivial⟩
  obtain rfl : i = 0 := by omega
  rfl

theorem product_rd (ht : ToksOk ts) {part : Ps → Tr × Ps} (hr : Runs ts part) (hp : ∀ q, Pre ts n q → RdT ts 124 part q) : ∀ q, Pre ts n q → RdT ts 123 (productF ts part) q := by
  intro p h
  have h2 := ht.len
  have hps := hp
  have hrs := hr
  have hs := hrs p h.at_
  have hq := h.step hs
  refine trip_of_exec_frz (T := tab Try.prog) (C := {}) 300 (fun _ => rfl) Try.func123 rfl (by kernel_rfl) (by kernel_rfl) (fun c0 rdb mpb => ?_)
  (repeat' ((conv => whnf); first | refine zA ?_ | refine zO ?_ | refine Ob.auto ?_ | refine zD 300 ?_ | (refine Br.intro (fun hb => ?_) (fun hb => ?_) <;> (try simp [-List.getD_eq_getElem?_getD] at hb) <;> (try (exfalso; omega))) | refine Ob.intro ?_ ?_))
  ((conv => whnf); refine zT 300 [0] (hps p h) subtA ?_)
  (repeat' ((conv => whnf); first | refine zA ?_ | refine zO ?_ | refine Ob.auto ?_ | refine zD 300 ?_ | (refine Br.intro (fun hb => ?_) (fun hb => ?_) <;> (try simp [-List.getD_eq_getElem?_getD] at hb) <;> (try (exfalso; omega))) | refine Ob.intro ?_ ?_))
  ((conv => whnf); refine loop_auto (fun _ => rfl) 300 1 (fun _ : Nat × Tr × Ps => []) (fun g => [(2, .box 89 g.2.1.cells), (0, pso ts g.2.2)]) (fun g => Pre ts n g.2.2 ∧ joinL (part) (productC ts) (productS ts) g.1 g.2.1 g.2.2 = productF ts part p ∧ (ts.length : Int) - g.2.2.at_ ≤ g.1) (fun g => ((ts.length : Int) - g.2.2.at_).toNat) ((ts.length, (part p).1, (part p).2)) (⟨hq, rfl, by have := hq.at_.lo; simp only; omega⟩) subtA subtA (fun _ => rfl) (by kernel_rfl) ?_; (conv => whnf))
  rintro ⟨k, a, r⟩ ⟨hP, hj, hk⟩
  simp only at hP hj hk
  have h0 := hP.at_.lo
  have h1 := hP.at_.hi
  obtain ⟨k, rfl⟩ : ∃ k', k = k' + 1 := ⟨k - 1, by omega⟩
  (repeat' ((conv => whnf); first | refine zA ?_ | refine zO ?_ | refine Ob.auto ?_ | (refine Ob.intro (by (exact inR_i64 (by dsimp only; omega) (by dsimp only; omega))) ?_) | refine zC 300 (psees_con hP.at_ _) ?_ | refine zG 300 (fun hg => psees_con hP.at_ _) ?_ | (refine CallY.con (psees_con hP.at_ _) (by rfl) leA ?_) | (refine CallZ.con (fun hg => psees_con hP.at_ _) rflsA (by rfl) ?_) | refine zE 300 (psees_con hP.at_ _) ?_ | refine zF 300 (fun hg => psees_con hP.at_ _) ?_ | refine zD 300 ?_ | (refine Br.intro (fun hb => ?_) (fun hb => ?_) <;> (try simp [-List.getD_eq_getElem?_getD] at hb) <;> (try (exfalso; omega))) | refine Ob.intro ?_ ?_))
  · have hc : (productC ts) r = true := by simp [productC, sumC, *]
    have hsg : (productS ts) r = 6 := by unfold productS; rw [if_pos hb]
    have hst := sees_adv ht hP.at_ hb
    have hP' := hP.step hst
    rw [joinL, if_pos hc, hsg] at hj
    have hle := (hrs _ hP'.at_).le
    have hle' : r.at_ + 1 ≤ (part (adv r)).2.at_ := hle
    (repeat' ((conv => whnf); first | refine zA ?_ | refine zO ?_ | refine Ob.auto ?_ | refine zD 300 ?_ | (refine draw4f (fun _ => rfl) (by kernel_rfl) 300 ?_) | (refine Br.intro (fun hb => ?_) (fun hb => ?_) <;> (try simp [-List.getD_eq_getElem?_getD] at hb) <;> (try (exfalso; omega))) | refine Ob.intro ?_ ?_))
    ((conv => whnf); refine CallY.trip [0] (hps (adv r) hP') (by kernel_rfl) leA subtA (by exact rowsLt_nil rfl) (by exact rowsLt_nil rfl) ?_)
    (conv => whnf)
    refine CallY.con (bin_con 6 a (part (adv r)).1) (by rfl) leA ?_
    (repeat' ((conv => whnf); first | refine zO ?_ | refine Ob.auto ?_ | refine zD 300 ?_ | (refine draw4f (fun _ => rfl) (by kernel_rfl) 300 ?_) | (refine Br.intro (fun hb => ?_) (fun hb => ?_) <;> (try simp [-List.getD_eq_getElem?_getD] at hb) <;> (try (exfalso; omega))) | refine Ob.intro ?_ ?_))
    ((conv => whnf); refine AltG.far 5 [2] (by kernel_rfl) farA (EndG.go ?_))
    (repeat' ((conv => whnf); first | refine zA ?_ | refine zO ?_ | refine Ob.auto ?_ | refine zD 300 ?_ | (refine Br.intro (fun hb => ?_) (fun hb => ?_) <;> (try simp [-List.getD_eq_getElem?_getD] at hb) <;> (try (exfalso; omega))) | refine Ob.intro ?_ ?_))
    ((conv => whnf); refine ⟨(k, binT 6 a (part (adv r)).1, (part (adv r)).2), ⟨hP'.step (hrs _ hP'.at_), hj, by dsimp only; omega⟩, ⟨subtA, subtA⟩, ⟨subtA, subtA⟩, ?_⟩; (first | omega | (dsimp only; omega) | skip))
  · have hc : (productC ts) r = true := by simp [productC, sumC, *]
    have hsg : (productS ts) r = 7 := by unfold productS; rw [if_neg (by simp [*]), if_pos hb]
    have hst := sees_adv ht hP.at_ hb
    have hP' := hP.step hst
    rw [joinL, if_pos hc, hsg] at hj
    have hle := (hrs _ hP'.at_).le
    have hle' : r.at_ + 1 ≤ (part (adv r)).2.at_ := hle
    (repeat' ((conv => whnf); first | refine zA ?_ | refine zO ?_ | refine Ob.auto ?_ | refine zD 300 ?_ | (refine draw4f (fun _ => rfl) (by kernel_rfl) 300 ?_) | (refine Br.intro (fun hb => ?_) (fun hb => ?_) <;> (try simp [-List.getD_eq_getElem?_getD] at hb) <;> (try (exfalso; omega))) | refine Ob.intro ?_ ?_))
    ((conv => whnf); refine CallY.trip [0] (hps (adv r) hP') (by kernel_rfl) leA subtA (by exact rowsLt_nil rfl) (by exact rowsLt_nil rfl) ?_)
    (conv => whnf)
    refine CallY.con (bin_con 7 a (part (adv r)).1) (by rfl) leA ?_
    (repeat' ((conv => whnf); first | refine zO ?_ | refine Ob.auto ?_ | refine zD 300 ?_ | (refine draw4f (fun _ => rfl) (by kernel_rfl) 300 ?_) | (refine Br.intro (fun hb => ?_) (fun hb => ?_) <;> (try simp [-List.getD_eq_getElem?_getD] at hb) <;> (try (exfalso; omega))) | refine Ob.intro ?_ ?_))
    ((conv => whnf); refine AltG.far 5 [2] (by kernel_rfl) farA (EndG.go ?_))
    (repeat' ((conv => whnf); first | refine zA ?_ | refine zO ?_ | refine Ob.auto ?_ | refine zD 300 ?_ | (refine Br.intro (fun hb => ?_) (fun hb => ?_) <;> (try simp [-List.getD_eq_getElem?_getD] at hb) <;> (try (exfalso; omega))) | refine Ob.intro ?_ ?_))
    ((conv => whnf); refine ⟨(k, binT 7 a (part (adv r)).1, (part (adv r)).2), ⟨hP'.step (hrs _ hP'.at_), hj, by dsimp only; omega⟩, ⟨subtA, subtA⟩, ⟨subtA, subtA⟩, ?_⟩; (first | omega | (dsimp only; omega) | skip))
  · have hpct : sees ts r sPct = true := by simp_all
    have hc : productC ts r = true := by unfold productC; rw [hpct]; simp
    have hsg : (productS ts) r = 8 := by unfold productS; rw [if_neg (by simp [*]), if_neg (by simp [*])]
    have hst := sees_adv ht hP.at_ hpct
    have hP' := hP.step hst
    rw [joinL, if_pos hc, hsg] at hj
    have hle := (hrs _ hP'.at_).le
    have hle' : r.at_ + 1 ≤ (part (adv r)).2.at_ := hle
    (repeat' ((conv => whnf); first | refine zA ?_ | refine zO ?_ | refine Ob.auto ?_ | refine zD 300 ?_ | (refine draw4f (fun _ => rfl) (by kernel_rfl) 300 ?_) | (refine Br.intro (fun hb => ?_) (fun hb => ?_) <;> (try simp [-List.getD_eq_getElem?_getD] at hb) <;> (try (exfalso; omega))) | refine Ob.intro ?_ ?_))
    ((conv => whnf); refine CallY.trip [0] (hps (adv r) hP') (by kernel_rfl) leA subtA (by exact rowsLt_nil rfl) (by exact rowsLt_nil rfl) ?_)
    (conv => whnf)
    refine CallY.con (bin_con 8 a (part (adv r)).1) (by rfl) leA ?_
    (repeat' ((conv => whnf); first | refine zO ?_ | refine Ob.auto ?_ | refine zD 300 ?_ | (refine draw4f (fun _ => rfl) (by kernel_rfl) 300 ?_) | (refine Br.intro (fun hb => ?_) (fun hb => ?_) <;> (try simp [-List.getD_eq_getElem?_getD] at hb) <;> (try (exfalso; omega))) | refine Ob.intro ?_ ?_))
    ((conv => whnf); refine AltG.far 5 [2] (by kernel_rfl) farA (EndG.go ?_))
    (repeat' ((conv => whnf); first | refine zA ?_ | refine zO ?_ | refine Ob.auto ?_ | refine zD 300 ?_ | (refine Br.intro (fun hb => ?_) (fun hb => ?_) <;> (try simp [-List.getD_eq_getElem?_getD] at hb) <;> (try (exfalso; omega))) | refine Ob.intro ?_ ?_))
    ((conv => whnf); refine ⟨(k, binT 8 a (part (adv r)).1, (part (adv r)).2), ⟨hP'.step (hrs _ hP'.at_), hj, by dsimp only; omega⟩, ⟨subtA, subtA⟩, ⟨subtA, subtA⟩, ?_⟩; (first | omega | (dsimp only; omega) | skip))
  · have hc : ¬ ((productC ts) r = true) := by simp [productC, sumC, hb]
    rw [joinL, if_neg hc] at hj
    rw [← hj]
    exact ⟨Le.refl _, subtA⟩

theorem sum_rd (ht : ToksOk ts) {part : Ps → Tr × Ps} (hr : Runs ts part) (hp : ∀ q, Pre ts n q → RdT ts 124 part q) : ∀ q, Pre ts n q → RdT ts 122 (sumF ts part) q := by
  intro p h
  have h2 := ht.len
  have hps := product_rd ht hr hp
  have hrs := runs_product ht hr
  have hs := hrs p h.at_
  have hq := h.step hs
  refine trip_of_exec_frz (T := tab Try.prog) (C := {}) 300 (fun _ => rfl) Try.func122 rfl (by kernel_rfl) (by kernel_rfl) (fun c0 rdb mpb => ?_)
  (repeat' ((conv => whnf); first | refine zA ?_ | refine zO ?_ | refine Ob.auto ?_ | refine zD 300 ?_ | (refine Br.intro (fun hb => ?_) (fun hb => ?_) <;> (try simp [-List.getD_eq_getElem?_getD] at hb) <;> (try (exfalso; omega))) | refine Ob.intro ?_ ?_))
  ((conv => whnf); refine zT 300 [0] (hps p h) subtA ?_)
  (repeat' ((conv => whnf); first | refine zA ?_ | refine zO ?_ | refine Ob.auto ?_ | refine zD 300 ?_ | (refine Br.intro (fun hb => ?_) (fun hb => ?_) <;> (try simp [-List.getD_eq_getElem?_getD] at hb) <;> (try (exfalso; omega))) | refine Ob.intro ?_ ?_))
  ((conv => whnf); refine loop_auto (fun _ => rfl) 300 1 (fun _ : Nat × Tr × Ps => []) (fun g => [(2, .box 89 g.2.1.cells), (0, pso ts g.2.2)]) (fun g => Pre ts n g.2.2 ∧ joinL (productF ts part) (sumC ts) (sumS ts) g.1 g.2.1 g.2.2 = sumF ts part p ∧ (ts.length : Int) - g.2.2.at_ ≤ g.1) (fun g => ((ts.length : Int) - g.2.2.at_).toNat) ((ts.length, (productF ts part p).1, (productF ts part p).2)) (⟨hq, rfl, by have := hq.at_.lo; simp only; omega⟩) subtA subtA (fun _ => rfl) (by kernel_rfl) ?_; (conv => whnf))
  rintro ⟨k, a, r⟩ ⟨hP, hj, hk⟩
  simp only at hP hj hk
  have h0 := hP.at_.lo
  have h1 := hP.at_.hi
  obtain ⟨k, rfl⟩ : ∃ k', k = k' + 1 := ⟨k - 1, by omega⟩
  (repeat' ((conv => whnf); first | refine zA ?_ | refine zO ?_ | refine Ob.auto ?_ | (refine Ob.intro (by (exact inR_i64 (by dsimp only; omega) (by dsimp only; omega))) ?_) | refine zC 300 (psees_con hP.at_ _) ?_ | refine zG 300 (fun hg => psees_con hP.at_ _) ?_ | (refine CallY.con (psees_con hP.at_ _) (by rfl) leA ?_) | (refine CallZ.con (fun hg => psees_con hP.at_ _) rflsA (by rfl) ?_) | refine zE 300 (psees_con hP.at_ _) ?_ | refine zF 300 (fun hg => psees_con hP.at_ _) ?_ | refine zD 300 ?_ | (refine Br.intro (fun hb => ?_) (fun hb => ?_) <;> (try simp [-List.getD_eq_getElem?_getD] at hb) <;> (try (exfalso; omega))) | refine Ob.intro ?_ ?_))
  · have hc : (sumC ts) r = true := by simp [productC, sumC, *]
    have hsg : (sumS ts) r = 4 := by unfold sumS; rw [if_pos hb]
    have hst := sees_adv ht hP.at_ hb
    have hP' := hP.step hst
    rw [joinL, if_pos hc, hsg] at hj
    have hle := (hrs _ hP'.at_).le
    have hle' : r.at_ + 1 ≤ (productF ts part (adv r)).2.at_ := hle
    (repeat' ((conv => whnf); first | refine zA ?_ | refine zO ?_ | refine Ob.auto ?_ | refine zD 300 ?_ | (refine draw4f (fun _ => rfl) (by kernel_rfl) 300 ?_) | (refine Br.intro (fun hb => ?_) (fun hb => ?_) <;> (try simp [-List.getD_eq_getElem?_getD] at hb) <;> (try (exfalso; omega))) | refine Ob.intro ?_ ?_))
    ((conv => whnf); refine CallY.trip [0] (hps (adv r) hP') (by kernel_rfl) leA subtA (by exact rowsLt_nil rfl) (by exact rowsLt_nil rfl) ?_)
    (conv => whnf)
    refine CallY.con (bin_con 4 a (productF ts part (adv r)).1) (by rfl) leA ?_
    (repeat' ((conv => whnf); first | refine zO ?_ | refine Ob.auto ?_ | refine zD 300 ?_ | (refine draw4f (fun _ => rfl) (by kernel_rfl) 300 ?_) | (refine Br.intro (fun hb => ?_) (fun hb => ?_) <;> (try simp [-List.getD_eq_getElem?_getD] at hb) <;> (try (exfalso; omega))) | refine Ob.intro ?_ ?_))
    ((conv => whnf); refine AltG.far 5 [2] (by kernel_rfl) farA (EndG.go ?_))
    (repeat' ((conv => whnf); first | refine zA ?_ | refine zO ?_ | refine Ob.auto ?_ | refine zD 300 ?_ | (refine Br.intro (fun hb => ?_) (fun hb => ?_) <;> (try simp [-List.getD_eq_getElem?_getD] at hb) <;> (try (exfalso; omega))) | refine Ob.intro ?_ ?_))
    ((conv => whnf); refine ⟨(k, binT 4 a (productF ts part (adv r)).1, (productF ts part (adv r)).2), ⟨hP'.step (hrs _ hP'.at_), hj, by dsimp only; omega⟩, ⟨subtA, subtA⟩, ⟨subtA, subtA⟩, ?_⟩; (first | omega | (dsimp only; omega) | skip))
  · have hmin : sees ts r sMinus = true := by simp_all
    have hc : sumC ts r = true := by unfold sumC; rw [hmin]; simp
    have hsg : (sumS ts) r = 5 := by unfold sumS; rw [if_neg (by simp [*])]
    have hst := sees_adv ht hP.at_ hmin
    have hP' := hP.step hst
    rw [joinL, if_pos hc, hsg] at hj
    have hle := (hrs _ hP'.at_).le
    have hle' : r.at_ + 1 ≤ (productF ts part (adv r)).2.at_ := hle
    (repeat' ((conv => whnf); first | refine zA ?_ | refine zO ?_ | refine Ob.auto ?_ | refine zD 300 ?_ | (refine draw4f (fun _ => rfl) (by kernel_rfl) 300 ?_) | (refine Br.intro (fun hb => ?_) (fun hb => ?_) <;> (try simp [-List.getD_eq_getElem?_getD] at hb) <;> (try (exfalso; omega))) | refine Ob.intro ?_ ?_))
    ((conv => whnf); refine CallY.trip [0] (hps (adv r) hP') (by kernel_rfl) leA subtA (by exact rowsLt_nil rfl) (by exact rowsLt_nil rfl) ?_)
    (conv => whnf)
    refine CallY.con (bin_con 5 a (productF ts part (adv r)).1) (by rfl) leA ?_
    (repeat' ((conv => whnf); first | refine zO ?_ | refine Ob.auto ?_ | refine zD 300 ?_ | (refine draw4f (fun _ => rfl) (by kernel_rfl) 300 ?_) | (refine Br.intro (fun hb => ?_) (fun hb => ?_) <;> (try simp [-List.getD_eq_getElem?_getD] at hb) <;> (try (exfalso; omega))) | refine Ob.intro ?_ ?_))
    ((conv => whnf); refine AltG.far 5 [2] (by kernel_rfl) farA (EndG.go ?_))
    (repeat' ((conv => whnf); first | refine zA ?_ | refine zO ?_ | refine Ob.auto ?_ | refine zD 300 ?_ | (refine Br.intro (fun hb => ?_) (fun hb => ?_) <;> (try simp [-List.getD_eq_getElem?_getD] at hb) <;> (try (exfalso; omega))) | refine Ob.intro ?_ ?_))
    ((conv => whnf); refine ⟨(k, binT 5 a (productF ts part (adv r)).1, (productF ts part (adv r)).2), ⟨hP'.step (hrs _ hP'.at_), hj, by dsimp only; omega⟩, ⟨subtA, subtA⟩, ⟨subtA, subtA⟩, ?_⟩; (first | omega | (dsimp only; omega) | skip))
  · have hc : ¬ ((sumC ts) r = true) := by simp [productC, sumC, hb]
    rw [joinL, if_neg hc] at hj
    rw [← hj]
    exact ⟨Le.refl _, subtA⟩

theorem less_rd (ht : ToksOk ts) {part : Ps → Tr × Ps} (hr : Runs ts part) (hp : ∀ q, Pre ts n q → RdT ts 124 part q) : ∀ q, Pre ts n q → RdT ts 121 (lessF ts part) q := by
  intro p h
  have h2 := ht.len
  have hps := sum_rd ht hr hp
  have hrs := runs_sum ht hr
  have hs := hrs p h.at_
  have hq := h.step hs
  refine trip_of_exec_frz (T := tab Try.prog) (C := {}) 300 (fun _ => rfl) Try.func121 rfl (by kernel_rfl) (by kernel_rfl) (fun c0 rdb mpb => ?_)
  (repeat' ((conv => whnf); first | refine zA ?_ | refine zO ?_ | refine Ob.auto ?_ | refine zD 300 ?_ | (refine Br.intro (fun hb => ?_) (fun hb => ?_) <;> (try simp [-List.getD_eq_getElem?_getD] at hb) <;> (try (exfalso; omega))) | refine Ob.intro ?_ ?_))
  ((conv => whnf); refine zT 300 [0] (hps p h) subtA ?_)
  (repeat' ((conv => whnf); first | refine zA ?_ | refine zO ?_ | refine Ob.auto ?_ | refine zD 300 ?_ | (refine Br.intro (fun hb => ?_) (fun hb => ?_) <;> (try simp [-List.getD_eq_getElem?_getD] at hb) <;> (try (exfalso; omega))) | refine Ob.intro ?_ ?_))
  ((conv => whnf); refine zT 300 [0] (ptake_trip ht hq.at_ sLt) subtA ?_)
  (repeat' ((conv => whnf); first | refine zA ?_ | refine zO ?_ | refine Ob.auto ?_ | refine zD 300 ?_ | (refine Br.intro (fun hb => ?_) (fun hb => ?_) <;> (try simp [-List.getD_eq_getElem?_getD] at hb) <;> (try (exfalso; omega))) | refine Ob.intro ?_ ?_))
  · have e1 : took ts (sumF ts part p).2 sLt = adv (sumF ts part p).2 := if_pos hb
    have hP' := hq.step (sees_adv ht hq.at_ hb)
    have e2 : lessF ts part p = (binT 3 (sumF ts part p).1 (sumF ts part (adv (sumF ts part p).2)).1, (sumF ts part (adv (sumF ts part p).2)).2) := if_pos hb
    rw [e1, e2]
    (repeat' ((conv => whnf); first | refine zA ?_ | refine zO ?_ | refine Ob.auto ?_ | refine zD 300 ?_ | (refine draw4f (fun _ => rfl) (by kernel_rfl) 300 ?_) | (refine Br.intro (fun hb => ?_) (fun hb => ?_) <;> (try simp [-List.getD_eq_getElem?_getD] at hb) <;> (try (exfalso; omega))) | refine Ob.intro ?_ ?_))
    ((conv => whnf); refine CallY.trip [0] (hps _ hP') (by kernel_rfl) leA subtA (by exact rowsLt_nil rfl) (by exact rowsLt_nil rfl) ?_)
    (conv => whnf)
    refine CallY.con (bin_con 3 (sumF ts part p).1 (sumF ts part (adv (sumF ts part p).2)).1) (by rfl) leA ?_
    (repeat' ((conv => whnf); first | refine zO ?_ | refine Ob.auto ?_ | refine zD 300 ?_ | (refine draw4f (fun _ => rfl) (by kernel_rfl) 300 ?_) | (refine Br.intro (fun hb => ?_) (fun hb => ?_) <;> (try simp [-List.getD_eq_getElem?_getD] at hb) <;> (try (exfalso; omega))) | refine Ob.intro ?_ ?_))
    ((conv => whnf); refine AltG.far 4 [2] (by kernel_rfl) farA (EndG.go ?_))
    (repeat' ((conv => whnf); first | refine zA ?_ | refine zO ?_ | refine Ob.auto ?_ | refine zD 300 ?_ | (refine Br.intro (fun hb => ?_) (fun hb => ?_) <;> (try simp [-List.getD_eq_getElem?_getD] at hb) <;> (try (exfalso; omega))) | refine Ob.intro ?_ ?_))
    exact ⟨Le.refl _, subtA⟩
  · have e1 : took ts (sumF ts part p).2 sLt = (sumF ts part p).2 := if_neg (by rw [hb]; decide)
    have e2 : lessF ts part p = sumF ts part p := if_neg (by rw [hb]; decide)
    rw [e1, e2]
    exact ⟨Le.refl _, subtA⟩

theorem same_rd (ht : ToksOk ts) {part : Ps → Tr × Ps} (hr : Runs ts part) (hp : ∀ q, Pre ts n q → RdT ts 124 part q) : ∀ q, Pre ts n q → RdT ts 117 (sameF ts part) q := by
  intro p h
  have h2 := ht.len
  have hps := less_rd ht hr hp
  have hrs := runs_less ht hr
  have hs := hrs p h.at_
  have hq := h.step hs
  refine trip_of_exec_frz (T := tab Try.prog) (C := {}) 300 (fun _ => rfl) Try.func117 rfl (by kernel_rfl) (by kernel_rfl) (fun c0 rdb mpb => ?_)
  (repeat' ((conv => whnf); first | refine zA ?_ | refine zO ?_ | refine Ob.auto ?_ | refine zD 300 ?_ | (refine Br.intro (fun hb => ?_) (fun hb => ?_) <;> (try simp [-List.getD_eq_getElem?_getD] at hb) <;> (try (exfalso; omega))) | refine Ob.intro ?_ ?_))
  ((conv => whnf); refine zT 300 [0] (hps p h) subtA ?_)
  (repeat' ((conv => whnf); first | refine zA ?_ | refine zO ?_ | refine Ob.auto ?_ | refine zD 300 ?_ | (refine Br.intro (fun hb => ?_) (fun hb => ?_) <;> (try simp [-List.getD_eq_getElem?_getD] at hb) <;> (try (exfalso; omega))) | refine Ob.intro ?_ ?_))
  ((conv => whnf); refine zT 300 [0] (ptake_trip ht hq.at_ sEq2) subtA ?_)
  (repeat' ((conv => whnf); first | refine zA ?_ | refine zO ?_ | refine Ob.auto ?_ | refine zD 300 ?_ | (refine Br.intro (fun hb => ?_) (fun hb => ?_) <;> (try simp [-List.getD_eq_getElem?_getD] at hb) <;> (try (exfalso; omega))) | refine Ob.intro ?_ ?_))
  · have e1 : took ts (lessF ts part p).2 sEq2 = adv (lessF ts part p).2 := if_pos hb
    have hP' := hq.step (sees_adv ht hq.at_ hb)
    have e2 : sameF ts part p = (binT 2 (lessF ts part p).1 (lessF ts part (adv (lessF ts part p).2)).1, (lessF ts part (adv (lessF ts part p).2)).2) := if_pos hb
    rw [e1, e2]
    (repeat' ((conv => whnf); first | refine zA ?_ | refine zO ?_ | refine Ob.auto ?_ | refine zD 300 ?_ | (refine draw4f (fun _ => rfl) (by kernel_rfl) 300 ?_) | (refine Br.intro (fun hb => ?_) (fun hb => ?_) <;> (try simp [-List.getD_eq_getElem?_getD] at hb) <;> (try (exfalso; omega))) | refine Ob.intro ?_ ?_))
    ((conv => whnf); refine CallY.trip [0] (hps _ hP') (by kernel_rfl) leA subtA (by exact rowsLt_nil rfl) (by exact rowsLt_nil rfl) ?_)
    (conv => whnf)
    refine CallY.con (bin_con 2 (lessF ts part p).1 (lessF ts part (adv (lessF ts part p).2)).1) (by rfl) leA ?_
    (repeat' ((conv => whnf); first | refine zO ?_ | refine Ob.auto ?_ | refine zD 300 ?_ | (refine draw4f (fun _ => rfl) (by kernel_rfl) 300 ?_) | (refine Br.intro (fun hb => ?_) (fun hb => ?_) <;> (try simp [-List.getD_eq_getElem?_getD] at hb) <;> (try (exfalso; omega))) | refine Ob.intro ?_ ?_))
    ((conv => whnf); refine AltG.far 4 [2] (by kernel_rfl) farA (EndG.go ?_))
    (repeat' ((conv => whnf); first | refine zA ?_ | refine zO ?_ | refine Ob.auto ?_ | refine zD 300 ?_ | (refine Br.intro (fun hb => ?_) (fun hb => ?_) <;> (try simp [-List.getD_eq_getElem?_getD] at hb) <;> (try (exfalso; omega))) | refine Ob.intro ?_ ?_))
    exact ⟨Le.refl _, subtA⟩
  · have e1 : took ts (lessF ts part p).2 sEq2 = (lessF ts part p).2 := if_neg (by rw [hb]; decide)
    have e2 : sameF ts part p = lessF ts part p := if_neg (by rw [hb]; decide)
    rw [e1, e2]
    exact ⟨Le.refl _, subtA⟩

theorem and_rd (ht : ToksOk ts) {part : Ps → Tr × Ps} (hr : Runs ts part) (hp : ∀ q, Pre ts n q → RdT ts 124 part q) : ∀ q, Pre ts n q → RdT ts 111 (andF ts part) q := by
  intro p h
  have h2 := ht.len
  have hps := same_rd ht hr hp
  have hrs := runs_same ht hr
  have hs := hrs p h.at_
  have hq := h.step hs
  refine trip_of_exec_frz (T := tab Try.prog) (C := {}) 300 (fun _ => rfl) Try.func111 rfl (by kernel_rfl) (by kernel_rfl) (fun c0 rdb mpb => ?_)
  (repeat' ((conv => whnf); first | refine zA ?_ | refine zO ?_ | refine Ob.auto ?_ | refine zD 300 ?_ | (refine Br.intro (fun hb => ?_) (fun hb => ?_) <;> (try simp [-List.getD_eq_getElem?_getD] at hb) <;> (try (exfalso; omega))) | refine Ob.intro ?_ ?_))
  ((conv => whnf); refine zT 300 [0] (hps p h) subtA ?_)
  (repeat' ((conv => whnf); first | refine zA ?_ | refine zO ?_ | refine Ob.auto ?_ | refine zD 300 ?_ | (refine Br.intro (fun hb => ?_) (fun hb => ?_) <;> (try simp [-List.getD_eq_getElem?_getD] at hb) <;> (try (exfalso; omega))) | refine Ob.intro ?_ ?_))
  ((conv => whnf); refine loop_auto (fun _ => rfl) 300 1 (fun _ : Nat × Tr × Ps => []) (fun g => [(2, .box 89 g.2.1.cells), (0, pso ts g.2.2)]) (fun g => Pre ts n g.2.2 ∧ joinL (sameF ts part) (fun p => sees ts p sAnd2) (fun _ => 1) g.1 g.2.1 g.2.2 = andF ts part p ∧ (ts.length : Int) - g.2.2.at_ ≤ g.1) (fun g => ((ts.length : Int) - g.2.2.at_).toNat) ((ts.length, (sameF ts part p).1, (sameF ts part p).2)) (⟨hq, rfl, by have := hq.at_.lo; simp only; omega⟩) subtA subtA (fun _ => rfl) (by kernel_rfl) ?_; (conv => whnf))
  rintro ⟨k, a, r⟩ ⟨hP, hj, hk⟩
  simp only at hP hj hk
  have h0 := hP.at_.lo
  have h1 := hP.at_.hi
  obtain ⟨k, rfl⟩ : ∃ k', k = k' + 1 := ⟨k - 1, by omega⟩
  (repeat' ((conv => whnf); first | refine zA ?_ | refine zO ?_ | refine Ob.auto ?_ | (refine Ob.intro (by (exact inR_i64 (by dsimp only; omega) (by dsimp only; omega))) ?_) | refine zD 300 ?_ | (refine Br.intro (fun hb => ?_) (fun hb => ?_) <;> (try simp [-List.getD_eq_getElem?_getD] at hb) <;> (try (exfalso; omega))) | refine Ob.intro ?_ ?_))
  ((conv => whnf); refine zT 300 [0] (ptake_trip ht hP.at_ sAnd2) subtA ?_)
  (repeat' ((conv => whnf); first | refine zA ?_ | refine zO ?_ | refine Ob.auto ?_ | refine zD 300 ?_ | (refine Br.intro (fun hb => ?_) (fun hb => ?_) <;> (try simp [-List.getD_eq_getElem?_getD] at hb) <;> (try (exfalso; omega))) | refine Ob.intro ?_ ?_))
  · have e1 : took ts r sAnd2 = adv r := if_pos hb
    have hst := sees_adv ht hP.at_ hb
    have hP' := hP.step hst
    rw [joinL, if_pos hb] at hj
    have hle := (hrs _ hP'.at_).le
    have hle' : r.at_ + 1 ≤ (sameF ts part (adv r)).2.at_ := hle
    dsimp only
    rw [e1]
    (repeat' ((conv => whnf); first | refine zA ?_ | refine zO ?_ | refine Ob.auto ?_ | refine zD 300 ?_ | (refine draw4f (fun _ => rfl) (by kernel_rfl) 300 ?_) | (refine Br.intro (fun hb => ?_) (fun hb => ?_) <;> (try simp [-List.getD_eq_getElem?_getD] at hb) <;> (try (exfalso; omega))) | refine Ob.intro ?_ ?_))
    ((conv => whnf); refine CallY.trip [0] (hps (adv r) hP') (by kernel_rfl) leA subtA (by exact rowsLt_nil rfl) (by exact rowsLt_nil rfl) ?_)
    (conv => whnf)
    refine CallY.con (bin_con 1 a (sameF ts part (adv r)).1) (by rfl) leA ?_
    (repeat' ((conv => whnf); first | refine zO ?_ | refine Ob.auto ?_ | refine zD 300 ?_ | (refine draw4f (fun _ => rfl) (by kernel_rfl) 300 ?_) | (refine Br.intro (fun hb => ?_) (fun hb => ?_) <;> (try simp [-List.getD_eq_getElem?_getD] at hb) <;> (try (exfalso; omega))) | refine Ob.intro ?_ ?_))
    ((conv => whnf); refine AltG.far 4 [2] (by kernel_rfl) farA (EndG.go ?_))
    (repeat' ((conv => whnf); first | refine zA ?_ | refine zO ?_ | refine Ob.auto ?_ | refine zD 300 ?_ | (refine Br.intro (fun hb => ?_) (fun hb => ?_) <;> (try simp [-List.getD_eq_getElem?_getD] at hb) <;> (try (exfalso; omega))) | refine Ob.intro ?_ ?_))
    ((conv => whnf); refine ⟨(k, binT 1 a (sameF ts part (adv r)).1, (sameF ts part (adv r)).2), ⟨hP'.step (hrs _ hP'.at_), hj, by dsimp only; omega⟩, ⟨subtA, subtA⟩, ⟨subtA, subtA⟩, ?_⟩; (first | omega | (dsimp only; omega) | skip))
  · have e1 : took ts r sAnd2 = r := if_neg (by rw [hb]; decide)
    rw [joinL, if_neg (by rw [hb]; decide)] at hj
    rw [← hj]
    dsimp only
    rw [e1]
    exact ⟨Le.refl _, subtA⟩

theorem expr_rd (ht : ToksOk ts) {part : Ps → Tr × Ps} (hr : Runs ts part) (hp : ∀ q, Pre ts n q → RdT ts 124 part q) : ∀ q, Pre ts n q → RdT ts 98 (exprF ts part) q := by
  intro p h
  have h2 := ht.len
  have hps := and_rd ht hr hp
  have hrs := runs_and ht hr
  have hs := hrs p h.at_
  have hq := h.step hs
  refine trip_of_exec_frz (T := tab Try.prog) (C := {}) 300 (fun _ => rfl) Try.func98 rfl (by kernel_rfl) (by kernel_rfl) (fun c0 rdb mpb => ?_)
  (repeat' ((conv => whnf); first | refine zA ?_ | refine zO ?_ | refine Ob.auto ?_ | refine zD 300 ?_ | (refine Br.intro (fun hb => ?_) (fun hb => ?_) <;> (try simp [-List.getD_eq_getElem?_getD] at hb) <;> (try (exfalso; omega))) | refine Ob.intro ?_ ?_))
  ((conv => whnf); refine zT 300 [0] (hps p h) subtA ?_)
  (repeat' ((conv => whnf); first | refine zA ?_ | refine zO ?_ | refine Ob.auto ?_ | refine zD 300 ?_ | (refine Br.intro (fun hb => ?_) (fun hb => ?_) <;> (try simp [-List.getD_eq_getElem?_getD] at hb) <;> (try (exfalso; omega))) | refine Ob.intro ?_ ?_))
  ((conv => whnf); refine loop_auto (fun _ => rfl) 300 1 (fun _ : Nat × Tr × Ps => []) (fun g => [(2, .box 89 g.2.1.cells), (0, pso ts g.2.2)]) (fun g => Pre ts n g.2.2 ∧ joinL (andF ts part) (fun p => sees ts p sOr2) (fun _ => 0) g.1 g.2.1 g.2.2 = exprF ts part p ∧ (ts.length : Int) - g.2.2.at_ ≤ g.1) (fun g => ((ts.length : Int) - g.2.2.at_).toNat) ((ts.length, (andF ts part p).1, (andF ts part p).2)) (⟨hq, rfl, by have := hq.at_.lo; simp only; omega⟩) subtA subtA (fun _ => rfl) (by kernel_rfl) ?_; (conv => whnf))
  rintro ⟨k, a, r⟩ ⟨hP, hj, hk⟩
  simp only at hP hj hk
  have h0 := hP.at_.lo
  have h1 := hP.at_.hi
  obtain ⟨k, rfl⟩ : ∃ k', k = k' + 1 := ⟨k - 1, by omega⟩
  (repeat' ((conv => whnf); first | refine zA ?_ | refine zO ?_ | refine Ob.auto ?_ | (refine Ob.intro (by (exact inR_i64 (by dsimp only; omega) (by dsimp only; omega))) ?_) | refine zD 300 ?_ | (refine Br.intro (fun hb => ?_) (fun hb => ?_) <;> (try simp [-List.getD_eq_getElem?_getD] at hb) <;> (try (exfalso; omega))) | refine Ob.intro ?_ ?_))
  ((conv => whnf); refine zT 300 [0] (ptake_trip ht hP.at_ sOr2) subtA ?_)
  (repeat' ((conv => whnf); first | refine zA ?_ | refine zO ?_ | refine Ob.auto ?_ | refine zD 300 ?_ | (refine Br.intro (fun hb => ?_) (fun hb => ?_) <;> (try simp [-List.getD_eq_getElem?_getD] at hb) <;> (try (exfalso; omega))) | refine Ob.intro ?_ ?_))
  · have e1 : took ts r sOr2 = adv r := if_pos hb
    have hst := sees_adv ht hP.at_ hb
    have hP' := hP.step hst
    rw [joinL, if_pos hb] at hj
    have hle := (hrs _ hP'.at_).le
    have hle' : r.at_ + 1 ≤ (andF ts part (adv r)).2.at_ := hle
    dsimp only
    rw [e1]
    (repeat' ((conv => whnf); first | refine zA ?_ | refine zO ?_ | refine Ob.auto ?_ | refine zD 300 ?_ | (refine draw4f (fun _ => rfl) (by kernel_rfl) 300 ?_) | (refine Br.intro (fun hb => ?_) (fun hb => ?_) <;> (try simp [-List.getD_eq_getElem?_getD] at hb) <;> (try (exfalso; omega))) | refine Ob.intro ?_ ?_))
    ((conv => whnf); refine CallY.trip [0] (hps (adv r) hP') (by kernel_rfl) leA subtA (by exact rowsLt_nil rfl) (by exact rowsLt_nil rfl) ?_)
    (conv => whnf)
    refine CallY.con (bin_con 0 a (andF ts part (adv r)).1) (by rfl) leA ?_
    (repeat' ((conv => whnf); first | refine zO ?_ | refine Ob.auto ?_ | refine zD 300 ?_ | (refine draw4f (fun _ => rfl) (by kernel_rfl) 300 ?_) | (refine Br.intro (fun hb => ?_) (fun hb => ?_) <;> (try simp [-List.getD_eq_getElem?_getD] at hb) <;> (try (exfalso; omega))) | refine Ob.intro ?_ ?_))
    ((conv => whnf); refine AltG.far 4 [2] (by kernel_rfl) farA (EndG.go ?_))
    (repeat' ((conv => whnf); first | refine zA ?_ | refine zO ?_ | refine Ob.auto ?_ | refine zD 300 ?_ | (refine Br.intro (fun hb => ?_) (fun hb => ?_) <;> (try simp [-List.getD_eq_getElem?_getD] at hb) <;> (try (exfalso; omega))) | refine Ob.intro ?_ ?_))
    ((conv => whnf); refine ⟨(k, binT 0 a (andF ts part (adv r)).1, (andF ts part (adv r)).2), ⟨hP'.step (hrs _ hP'.at_), hj, by dsimp only; omega⟩, ⟨subtA, subtA⟩, ⟨subtA, subtA⟩, ?_⟩; (first | omega | (dsimp only; omega) | skip))
  · have e1 : took ts r sOr2 = r := if_neg (by rw [hb]; decide)
    rw [joinL, if_neg (by rw [hb]; decide)] at hj
    rw [← hj]
    dsimp only
    rw [e1]
    exact ⟨Le.refl _, subtA⟩

end

end Go.Proofs.Ytdoaagphhjggbaa
