/- Contracts of the document's parser: statements. -/
import Derived.Test.YtdoaagphhjggbaaQPa4
import Derived.Test.YtdoaagphhjggbaaQPaA
import Derived.Test.YtdoaagphhjggbaaQ2
namespace Go.Proofs.Ytdoaagphhjggbaa
open Go Go.Sx Go.RowKit Go.St Pa
set_option maxRecDepth 100000
set_option maxHeartbeats 4000000

structure PreW (ts : List Lx.Tok) (n : Nat) (p : Ps) : Prop where
  at_ : AtOk ts p
  deep : 0 ≤ p.deep ∧ p.deep ≤ p.at_ + 2
  ok : p.err = 0 → p.deep ≤ p.at_ + 1
  left : (ts.length : Int) - p.at_ ≤ n

section
variable {ts : List Lx.Tok} {p q : Ps} {n : Nat}

theorem PreW.pre (h : PreW ts n p) (he : p.err = 0) : Pre ts n p := ⟨h.at_, ⟨h.deep.1, h.ok he⟩, h.left⟩
theorem PreW.step (h : PreW ts n p) (k : Step ts p q) (he : p.err = 0) : PreW ts n q :=
  ⟨k.ok h.at_, by have := h.deep; have := k.deep; have := k.le; omega, fun _ => by have := h.ok he; have := k.deep; have := k.le; omega, by have := h.left; have := k.le; omega⟩

abbrev kidsR (l : List Tr) : Nat → List AV := fun i => (Tr.cellsL l).getD i []

theorem setAll_full : ∀ (pre old new : List AV), old.length = new.length → setAll (pre ++ old) pre.length new = pre ++ new
  | pre, [], [], _ => rfl
  | pre, x :: old, y :: new, h => by
    have e : (pre ++ x :: old).set pre.length y = (pre ++ [y]) ++ old := by simp
    have := setAll_full (pre ++ [y]) old new (by simpa using h)
    rw [List.length_append] at this
    rw [setAll, e]
    simpa using this
  | pre, [], _ :: _, h => by simp at h
  | pre, _ :: _, [], h => by simp at h

theorem kids_put {l : List Tr} {t : Tr} {n : Nat} {g : Nat → List AV} (hn : n = l.length) (hg : (g 0).length = 6) : ∀ j, j < l.length + 1 →
    LeL (if j = n then setAll (appF l.length (kidsR l) 1 g n) 0 t.cells else appF l.length (kidsR l) 1 g j) (kidsR (l ++ [t]) j) := by
  intro j hj
  refine LeL.of_eq ?_
  subst hn
  have e : kidsR (l ++ [t]) j = ((l ++ [t]).getD j Tr.none).cells := Tr.cellsL_get _ _ (by simp; omega)
  rw [e, getD_snoc]
  by_cases h : j < l.length
  · rw [if_neg (by omega), if_pos h, appF, if_pos h]
    exact Tr.cellsL_get _ _ h
  · obtain rfl : j = l.length := by omega
    rw [if_pos rfl, if_neg (by omega), if_pos rfl, appF, if_neg (by omega)]
    rw [if_pos (by omega), Nat.sub_self]
    exact setAll_full [] _ _ hg

theorem stats_nil (ht : ToksOk ts) {stat : Ps → Tr × Ps} (hr : Runs ts stat) (hg : Gains ts stat) (hs : ∀ q, Pre ts n q → RdT ts 116 stat q) (h : PreW ts n p) (k a : Int) :
    Trip Try.prog 109 [.ptr 0 0, .ptr 1 0] [pso ts p, .box 89 [iv k, .nils, .nils, .nils, iv a, .nils]] (.tup [])
      [(0, pso ts (statsL ts stat ts.length [] p).2), (1, .box 89 [iv k, .nils, .nils, .nils, iv a, .own 2 0 0 (statsL ts stat ts.length [] p).1.length]),
       (2, .row [] 89 6 0 (statsL ts stat ts.length [] p).1.length (kidsR (statsL ts stat ts.length [] p).1))] 3 := by
  have h2 := ht.len
  refine trip_of_exec_frz (T := tab Try.prog) (C := {}) 600 (fun _ => rfl) Try.func109 rfl (by kernel_rfl) (by kernel_rfl) (fun c0 rdb mpb => ?_)
  (repeat' ((conv => whnf); first | refine zA ?_ | refine zO ?_ | refine Ob.auto ?_ | refine zD 600 ?_ | (refine Br.intro (fun hb => ?_) (fun hb => ?_) <;> (try simp [-List.getD_eq_getElem?_getD] at hb) <;> (try (exfalso; omega))) | refine Ob.intro ?_ ?_))
  refine loop_nil 1 5 89 6 rfl rfl ?_
  ((conv => whnf); refine loop_auto (fun _ => rfl) 600 1 (fun _ : Nat × List Tr × Ps => []) (fun g => [(2, .row [] 89 6 0 g.2.1.length (kidsR g.2.1)), (1, .box 89 [iv k, .nils, .nils, .nils, iv a, .own 2 0 0 g.2.1.length]), (0, pso ts g.2.2)]) (fun g => PreW ts n g.2.2 ∧ statsL ts stat g.1 g.2.1 g.2.2 = statsL ts stat ts.length [] p ∧ (g.2.2.err = 0 → (ts.length : Int) - g.2.2.at_ ≤ g.1) ∧ g.2.1.length + g.1 ≤ ts.length) (fun g => g.1) ((ts.length, [], p)) (⟨h, rfl, by have := h.at_.lo; simp only; omega, by simp⟩) subtA subtA (fun _ => rfl) (by kernel_rfl) ?_; (conv => whnf))
  rintro ⟨m, l, r⟩ ⟨hP, hj, hk, hl⟩
  simp only at hP hj hk hl
  (repeat' ((conv => whnf); first | refine zA ?_ | refine zO ?_ | refine Ob.auto ?_ | (refine Ob.intro (by (exact inR_i64 (by dsimp only; omega) (by dsimp only; omega))) ?_) | refine zC 600 (pok_con) ?_ | refine zG 600 (fun hg => pok_con) ?_ | (refine CallY.con (pok_con) (by rfl) leA ?_) | (refine CallZ.con (fun hg => pok_con) rflsA (by rfl) ?_) | (refine call_lend (fun _ => rfl) 600 (pok_con) holdA (by repeat' (first | exact trivial | exact Le.refl _ | (refine And.intro ?_ ?_))) (by rfl) (by kernel_rfl) ?_) | (refine gcall_lend (fun _ => rfl) 600 (fun hg => pok_con) (fun hg => holdA) (fun hg => (by repeat' (first | exact trivial | exact Le.refl _ | exact Le.cnd hg | (refine And.intro ?_ ?_)))) (by rfl) (by kernel_rfl) ?_) | refine zD 600 ?_ | (refine Br.intro (fun hb => ?_) (fun hb => ?_) <;> (try simp [-List.getD_eq_getElem?_getD] at hb) <;> (try (exfalso; omega))) | refine Ob.intro ?_ ?_))
  refine gcall_alt (fun _ => rfl) 600 (.bool false) (by kernel_rfl) rflsA (fun he => ?_) (fun he => ?_)
  · have he' : r.err = 0 := by simpa using he
    ((conv => whnf); refine zT 600 [0] (ptake_trip ht hP.at_ sRc) subtA ?_)
    (repeat' ((conv => whnf); first | refine zA ?_ | refine zO ?_ | refine Ob.auto ?_ | refine zD 600 ?_ | (refine Br.intro (fun hb => ?_) (fun hb => ?_) <;> (try simp [-List.getD_eq_getElem?_getD] at hb) <;> (try (exfalso; omega))) | refine Ob.intro ?_ ?_))
    · have e1 : took ts r sRc = r := if_neg (by rw [hb.2]; decide)
      have hQ := hP.pre he'
      have hm : 1 ≤ m := by have := hk he'; have := hP.at_.hi; omega
      obtain ⟨m, rfl⟩ : ∃ m', m = m' + 1 := ⟨m - 1, by omega⟩
      rw [statsL, if_pos he', if_neg (by rw [hb.2]; decide)] at hj
      dsimp only
      rw [e1]
      ((conv => whnf); refine draw3 (fun _ => rfl) (by kernel_rfl) 600 [.turn [0] [.ptr 0 0] [pso ts r] (stat r).1.av [(0, pso ts (stat r).2)]] (by kernel_rfl) ?_)
      (repeat' ((conv => whnf); first | refine zA ?_ | refine zO ?_ | refine Ob.auto ?_ | (refine Ob.intro (by (exact ⟨by omega, by omega⟩)) ?_) | refine zD 600 ?_ | (refine Br.intro (fun hb => ?_) (fun hb => ?_) <;> (try simp [-List.getD_eq_getElem?_getD] at hb) <;> (try (exfalso; omega))) | refine Ob.intro ?_ ?_))
      · exact ⟨hs r hQ, by kernel_rfl, leA, subtA, by exact rowsLt_nil rfl, by exact rowsLt_nil rfl⟩
      have hst := hr r hP.at_
      have hk' : (stat r).2.err = 0 → (ts.length : Int) - (stat r).2.at_ ≤ m := fun h => by have := hg r hP.at_ h; have := hk he'; omega
      ((conv => whnf); refine ⟨(m, l ++ [(stat r).1], (stat r).2), ⟨hP.step hst he', hj, hk', by simp; omega⟩, ⟨subtA, ⟨⟨⟨rfl, rfl, rfl⟩, rfl, by simp, kids_put (t := (stat r).1) (by simp) rfl⟩, ⟨rfl, Le.refl _, Le.refl _, Le.refl _, Le.refl _, Le.refl _, Le.of_eq (congrArg (AV.own _ _ _) (by simp)), trivial⟩, subtA⟩⟩, ⟨subtA, subtA⟩, ?_⟩; (first | omega | (dsimp only; omega) | skip))
    · have e1 : took ts r sRc = adv r := if_pos (hb he')
      have e2 : (l, adv r) = statsL ts stat ts.length [] p := by
        rw [← hj]
        cases m with
        | zero => have := hk he'; have := hP.at_.hi; omega
        | succ m => rw [statsL, if_pos he', if_pos (hb he')]
      rw [← e2]
      dsimp only
      rw [e1]
      exact ⟨Le.refl _, subtA⟩
  · have he' : ¬ (r.err = 0) := by simpa using he
    (repeat' ((conv => whnf); first | refine zA ?_ | refine zO ?_ | refine Ob.auto ?_ | refine zD 600 ?_ | (refine Br.intro (fun hb => ?_) (fun hb => ?_) <;> (try simp [-List.getD_eq_getElem?_getD] at hb) <;> (try (exfalso; omega))) | refine Ob.intro ?_ ?_))
    have e2 : (l, r) = statsL ts stat ts.length [] p := by
      rw [← hj]
      cases m with
      | zero => rfl
      | succ m => rw [statsL, if_neg he']
    rw [← e2]
    exact ⟨Le.refl _, subtA⟩

theorem stats_own (ht : ToksOk ts) {stat : Ps → Tr × Ps} (hr : Runs ts stat) (hg : Gains ts stat) (hs : ∀ q, Pre ts n q → RdT ts 116 stat q) (h : PreW ts n p) (k a : Int) (w : List (List UInt8)) (ns : List Int) (l0 : List Tr) (hl0 : l0.length ≤ 10000) :
    Trip Try.prog 109 [.ptr 0 0, .ptr 1 0] [pso ts p, .box 89 [iv k, strs w, ints ns, .nils, iv a, .own 2 0 0 l0.length], .row [] 89 6 0 l0.length (kidsR l0)] (.tup [])
      [(0, pso ts (statsL ts stat ts.length l0 p).2), (1, .box 89 [iv k, strs w, ints ns, .nils, iv a, .own 2 0 0 (statsL ts stat ts.length l0 p).1.length]),
       (2, .row [] 89 6 0 (statsL ts stat ts.length l0 p).1.length (kidsR (statsL ts stat ts.length l0 p).1))] 3 := by
  have h2 := ht.len
  refine trip_of_exec_frz (T := tab Try.prog) (C := {}) 600 (fun _ => rfl) Try.func109 rfl (by kernel_rfl) (by kernel_rfl) (fun c0 rdb mpb => ?_)
  (repeat' ((conv => whnf); first | refine zA ?_ | refine zO ?_ | refine Ob.auto ?_ | refine zD 600 ?_ | (refine Br.intro (fun hb => ?_) (fun hb => ?_) <;> (try simp [-List.getD_eq_getElem?_getD] at hb) <;> (try (exfalso; omega))) | refine Ob.intro ?_ ?_))
  ((conv => whnf); refine loop_auto (fun _ => rfl) 600 1 (fun _ : Nat × List Tr × Ps => []) (fun g => [(2, .row [] 89 6 0 g.2.1.length (kidsR g.2.1)), (1, .box 89 [iv k, strs w, ints ns, .nils, iv a, .own 2 0 0 g.2.1.length]), (0, pso ts g.2.2)]) (fun g => PreW ts n g.2.2 ∧ statsL ts stat g.1 g.2.1 g.2.2 = statsL ts stat ts.length l0 p ∧ (g.2.2.err = 0 → (ts.length : Int) - g.2.2.at_ ≤ g.1) ∧ g.2.1.length + g.1 ≤ l0.length + ts.length) (fun g => g.1) ((ts.length, l0, p)) (⟨h, rfl, by have := h.at_.lo; simp only; omega, Nat.le_refl _⟩) subtA subtA (fun _ => rfl) (by kernel_rfl) ?_; (conv => whnf))
  rintro ⟨m, l, r⟩ ⟨hP, hj, hk, hl⟩
  simp only at hP hj hk hl
  (repeat' ((conv => whnf); first | refine zA ?_ | refine zO ?_ | refine Ob.auto ?_ | (refine Ob.intro (by (exact inR_i64 (by dsimp only; omega) (by dsimp only; omega))) ?_) | refine zC 600 (pok_con) ?_ | refine zG 600 (fun hg => pok_con) ?_ | (refine CallY.con (pok_con) (by rfl) leA ?_) | (refine CallZ.con (fun hg => pok_con) rflsA (by rfl) ?_) | (refine call_lend (fun _ => rfl) 600 (pok_con) holdA (by repeat' (first | exact trivial | exact Le.refl _ | (refine And.intro ?_ ?_))) (by rfl) (by kernel_rfl) ?_) | (refine gcall_lend (fun _ => rfl) 600 (fun hg => pok_con) (fun hg => holdA) (fun hg => (by repeat' (first | exact trivial | exact Le.refl _ | exact Le.cnd hg | (refine And.intro ?_ ?_)))) (by rfl) (by kernel_rfl) ?_) | refine zD 600 ?_ | (refine Br.intro (fun hb => ?_) (fun hb => ?_) <;> (try simp [-List.getD_eq_getElem?_getD] at hb) <;> (try (exfalso; omega))) | refine Ob.intro ?_ ?_))
  refine gcall_alt (fun _ => rfl) 600 (.bool false) (by kernel_rfl) rflsA (fun he => ?_) (fun he => ?_)
  · have he' : r.err = 0 := by simpa using he
    ((conv => whnf); refine zT 600 [0] (ptake_trip ht hP.at_ sRc) subtA ?_)
    (repeat' ((conv => whnf); first | refine zA ?_ | refine zO ?_ | refine Ob.auto ?_ | refine zD 600 ?_ | (refine Br.intro (fun hb => ?_) (fun hb => ?_) <;> (try simp [-List.getD_eq_getElem?_getD] at hb) <;> (try (exfalso; omega))) | refine Ob.intro ?_ ?_))
    · have e1 : took ts r sRc = r := if_neg (by rw [hb.2]; decide)
      have hQ := hP.pre he'
      have hm : 1 ≤ m := by have := hk he'; have := hP.at_.hi; omega
      obtain ⟨m, rfl⟩ : ∃ m', m = m' + 1 := ⟨m - 1, by omega⟩
      rw [statsL, if_pos he', if_neg (by rw [hb.2]; decide)] at hj
      dsimp only
      rw [e1]
      ((conv => whnf); refine draw3 (fun _ => rfl) (by kernel_rfl) 600 [.turn [0] [.ptr 0 0] [pso ts r] (stat r).1.av [(0, pso ts (stat r).2)]] (by kernel_rfl) ?_)
      (repeat' ((conv => whnf); first | refine zA ?_ | refine zO ?_ | refine Ob.auto ?_ | (refine Ob.intro (by (exact ⟨by omega, by omega⟩)) ?_) | refine zD 600 ?_ | (refine Br.intro (fun hb => ?_) (fun hb => ?_) <;> (try simp [-List.getD_eq_getElem?_getD] at hb) <;> (try (exfalso; omega))) | refine Ob.intro ?_ ?_))
      · exact ⟨hs r hQ, by kernel_rfl, leA, subtA, by exact rowsLt_nil rfl, by exact rowsLt_nil rfl⟩
      have hst := hr r hP.at_
      have hk' : (stat r).2.err = 0 → (ts.length : Int) - (stat r).2.at_ ≤ m := fun h => by have := hg r hP.at_ h; have := hk he'; omega
      ((conv => whnf); refine ⟨(m, l ++ [(stat r).1], (stat r).2), ⟨hP.step hst he', hj, hk', by simp; omega⟩, ⟨subtA, ⟨⟨⟨rfl, rfl, rfl⟩, rfl, by simp, kids_put (t := (stat r).1) (by simp) rfl⟩, ⟨rfl, Le.refl _, Le.refl _, Le.refl _, Le.refl _, Le.refl _, Le.of_eq (congrArg (AV.own _ _ _) (by simp)), trivial⟩, subtA⟩⟩, ⟨subtA, subtA⟩, ?_⟩; (first | omega | (dsimp only; omega) | skip))
    · have e1 : took ts r sRc = adv r := if_pos (hb he')
      have e2 : (l, adv r) = statsL ts stat ts.length l0 p := by
        rw [← hj]
        cases m with
        | zero => have := hk he'; have := hP.at_.hi; omega
        | succ m => rw [statsL, if_pos he', if_pos (hb he')]
      rw [← e2]
      dsimp only
      rw [e1]
      exact ⟨Le.refl _, subtA⟩
  · have he' : ¬ (r.err = 0) := by simpa using he
    (repeat' ((conv => whnf); first | refine zA ?_ | refine zO ?_ | refine Ob.auto ?_ | refine zD 600 ?_ | (refine Br.intro (fun hb => ?_) (fun hb => ?_) <;> (try simp [-List.getD_eq_getElem?_getD] at hb) <;> (try (exfalso; omega))) | refine Ob.intro ?_ ?_))
    have e2 : (l, r) = statsL ts stat ts.length l0 p := by
      rw [← hj]
      cases m with
      | zero => rfl
      | succ m => rw [statsL, if_neg he']
    rw [← e2]
    exact ⟨Le.refl _, subtA⟩

end

end Go.Proofs.Ytdoaagphhjggbaa
