/- Contracts of the document's parser: statements. -/
import Derived.Test.YtdoaagphhjggbaaGreatDoorQPa4
import Derived.Test.YtdoaagphhjggbaaGreatDoorQPaA
import Derived.Test.YtdoaagphhjggbaaGreatDoorQ2
namespace Go.Proofs.YtdoaagphhjggbaaGreatDoor
open List renaming getD_eq_getElem?_getD → zd
open Go Go.Sx Go.RowKit Go.St Pa
set_option maxRecDepth 100000
set_option maxHeartbeats 4000000
structure PreW (ts : List Lx.Tok) (n : Nat) (p : Ps) : Prop where
 at_ : AtOk ts p
 deep : 0 ≤ p.deep ∧ p.deep ≤ p.at_ + 2
 ok : p.err = 0 → p.deep ≤ p.at_ + 1
 left : (ts.length : Int) - p.at_ ≤ n
section
variable {ts : List Lx.Tok} {p q : Ps} {n : Nat}
theorem PreW.pre (h : PreW ts n p) (he : p.err = 0) : Pre ts n p := ⟨h.at_, ⟨h.deep.1, h.ok he⟩, h.left⟩
theorem PreW.step (h : PreW ts n p) (k : Step ts p q) (he : p.err = 0) : PreW ts n q :=
 ⟨k.ok h.at_, by have := h.deep; have := k.deep; have := k.le; omega, fun _ => by have := h.ok he; have := k.deep; have := k.le; omega, by have := h.left; have := k.le; omega⟩
abbrev qbm (l : List Tr) : Nat → List AV := fun i => (Tr.cellsL l).getD i []
theorem jan : ∀ (pre old new : List AV), old.length = new.length → qab (pre ++ old) pre.length new = pre ++ new
 | pre, [], [], _ => rfl
 | pre, x :: old, y :: new, h => by
  have e : (pre ++ x :: old).set pre.length y = (pre ++ [y]) ++ old := by simp
  have := jan (pre ++ [y]) old new (by simpa using h)
  rw [List.length_append] at this
  rw [qab, e]
  simpa using this
 | pre, [], _ :: _, h => by simp at h
 | pre, _ :: _, [], h => by simp at h
theorem qmm {l : List Tr} {t : Tr} {n : Nat} {g : Nat → List AV} (hn : n = l.length) (hg : (g 0).length = 6) : ∀ j, j < l.length + 1 →
  LeL (if j = n then qab (appF l.length (qbm l) 1 g n) 0 t.cells else appF l.length (qbm l) 1 g j) (qbm (l ++ [t]) j) := by
 intro j hj
 refine LeL.of_eq ?_
 subst hn
 have e : qbm (l ++ [t]) j = ((l ++ [t]).getD j Tr.none).cells := Tr.cellsL_get _ _ (by simp; omega)
 rw [e, qol]
 by_cases h : j < l.length
 ·rw [if_neg (by omega), if_pos h, appF, if_pos h]
  exact Tr.cellsL_get _ _ h
 ·obtain rfl : j = l.length := by omega
  rw [if_pos rfl, if_neg (by omega), if_pos rfl, appF, if_neg (by omega)]
  rw [if_pos (by omega), Nat.sub_self]
  exact jan [] _ _ hg
theorem jlt (ht : ToksOk ts) {stat : Ps → Tr × Ps} (hr : Runs ts stat) (hg : qfm ts stat) (hs : ∀ q, Pre ts n q → RdT ts 105 stat q) (h : PreW ts n p) (k a : Int) :
    Trip Tryz.prog 93 [.ptr 0 0, .ptr 1 0] [pso ts p, .box 74 [iv k, .nils, .nils, .nils, iv a, .nils]] (.tup [])
      [(0, pso ts (jc ts stat ts.length [] p).2), (1, .box 74 [iv k, .nils, .nils, .nils, iv a, .own 2 0 0 (jc ts stat ts.length [] p).1.length]),
       (2, .row [] 74 6 0 (jc ts stat ts.length [] p).1.length (qbm (jc ts stat ts.length [] p).1))] 3 := by
  have h2 := ht.len
  refine zM {} 600 Tryz.func93 (fun c0 rdb mpb => ?_)
  refine qda 1 5 74 6 rfl rfl ?_
  ((conv => whnf); refine qo (fun _ => rfl) 600 1 (fun _ : Nat × List Tr × Ps => []) (fun g => [(2, .row [] 74 6 0 g.2.1.length (qbm g.2.1)), (1, .box 74 [iv k, .nils, .nils, .nils, iv a, .own 2 0 0 g.2.1.length]), (0, pso ts g.2.2)]) (fun g => PreW ts n g.2.2 ∧ jc ts stat g.1 g.2.1 g.2.2 = jc ts stat ts.length [] p ∧ (g.2.2.err = 0 → (ts.length : Int) - g.2.2.at_ ≤ g.1) ∧ g.2.1.length + g.1 ≤ ts.length) (fun g => g.1) ((ts.length, [], p)) (⟨h, rfl, by have := h.at_.lo; simp only; omega, by simp⟩) qa qa (fun _ => rfl) (by kernel_rfl) ?_; (conv => whnf))
  rintro ⟨m, l, r⟩ ⟨hP, hj, hk, hl⟩
  simp only at hP hj hk hl
  (repeat' ((conv => whnf); first | refine zE 600 (qeo) ?_ | fail))
  refine jam (fun _ => rfl) 600 (.bool false) (by kernel_rfl) qga (fun he => ?_) (fun he => ?_)
  · have he' : r.err = 0 := by simpa using he
    ((conv => whnf); refine zT 600 [0] (qag ht hP.at_ sRc) qa ?_)
    (repeat' ((conv => whnf); first | refine Ob.auto ?_ | (apply zB <;> intro hb <;> (try simp [-zd] at hb) <;> try (exfalso; omega))))
    · have e1 : took ts r sRc = r := if_neg (by rw [hb.2]; decide)
      have hQ := hP.pre he'
      have hm : 1 ≤ m := by have := hk he'; have := hP.at_.hi; omega
      obtain ⟨m, rfl⟩ : ∃ m', m = m' + 1 := ⟨m - 1, by omega⟩
      rw [jc, if_pos he', if_neg (by rw [hb.2]; decide)] at hj
      dsimp only
      rw [e1]
      ((conv => whnf); refine qbk (fun _ => rfl) (by kernel_rfl) 600 [.turn [0] [.ptr 0 0] [pso ts r] (stat r).1.av [(0, pso ts (stat r).2)]] (by kernel_rfl) ?_)
      (repeat' ((conv => whnf); first | refine Ob.auto ?_ | refine Ob.intro ?_ ?_ | fail))
      · exact ⟨hs r hQ, by kernel_rfl, leA, qa, by exact qb rfl, by exact qb rfl⟩
      have hst := hr r hP.at_
      have hk' : (stat r).2.err = 0 → (ts.length : Int) - (stat r).2.at_ ≤ m := fun h => by have := hg r hP.at_ h; have := hk he'; omega
      ((conv => whnf); refine ⟨(m, l ++ [(stat r).1], (stat r).2), ⟨hP.step hst he', hj, hk', by simp; omega⟩, ⟨qa, ⟨⟨⟨rfl, rfl, rfl⟩, rfl, by simp, qmm (t := (stat r).1) (by simp) rfl⟩, ⟨rfl, Le.refl _, Le.refl _, Le.refl _, Le.refl _, Le.refl _, Le.of_eq (congrArg (AV.own _ _ _) (by simp)), trivial⟩, qa⟩⟩, ⟨qa, qa⟩, ?_⟩; (first | omega | (dsimp only; omega) | skip))
    · have e1 : took ts r sRc = adv r := if_pos (hb he')
      have e2 : (l, adv r) = jc ts stat ts.length [] p := by
        rw [← hj]
        cases m with
        | zero => have := hk he'; have := hP.at_.hi; omega
        | succ m => rw [jc, if_pos he', if_pos (hb he')]
      rw [← e2]
      dsimp only
      rw [e1]
      exact ⟨Le.refl _, qa⟩
  · have he' : ¬ (r.err = 0) := by simpa using he
    (repeat' ((conv => whnf); first | refine Ob.auto ?_ | (apply zB <;> intro hb <;> (try simp [-zd] at hb) <;> try (exfalso; omega))))
    have e2 : (l, r) = jc ts stat ts.length [] p := by
      rw [← hj]
      cases m with
      | zero => rfl
      | succ m => rw [jc, if_neg he']
    rw [← e2]
    exact ⟨Le.refl _, qa⟩
theorem jao (ht : ToksOk ts) {stat : Ps → Tr × Ps} (hr : Runs ts stat) (hg : qfm ts stat) (hs : ∀ q, Pre ts n q → RdT ts 105 stat q) (h : PreW ts n p) (k a : Int) (w : List (List UInt8)) (ns : List Int) (l0 : List Tr) (hl0 : l0.length ≤ 10000) :
    Trip Tryz.prog 93 [.ptr 0 0, .ptr 1 0] [pso ts p, .box 74 [iv k, strs w, ints ns, .nils, iv a, .own 2 0 0 l0.length], .row [] 74 6 0 l0.length (qbm l0)] (.tup [])
      [(0, pso ts (jc ts stat ts.length l0 p).2), (1, .box 74 [iv k, strs w, ints ns, .nils, iv a, .own 2 0 0 (jc ts stat ts.length l0 p).1.length]),
       (2, .row [] 74 6 0 (jc ts stat ts.length l0 p).1.length (qbm (jc ts stat ts.length l0 p).1))] 3 := by
  have h2 := ht.len
  refine zM {} 600 Tryz.func93 (fun c0 rdb mpb => ?_)
  ((conv => whnf); refine qo (fun _ => rfl) 600 1 (fun _ : Nat × List Tr × Ps => []) (fun g => [(2, .row [] 74 6 0 g.2.1.length (qbm g.2.1)), (1, .box 74 [iv k, strs w, ints ns, .nils, iv a, .own 2 0 0 g.2.1.length]), (0, pso ts g.2.2)]) (fun g => PreW ts n g.2.2 ∧ jc ts stat g.1 g.2.1 g.2.2 = jc ts stat ts.length l0 p ∧ (g.2.2.err = 0 → (ts.length : Int) - g.2.2.at_ ≤ g.1) ∧ g.2.1.length + g.1 ≤ l0.length + ts.length) (fun g => g.1) ((ts.length, l0, p)) (⟨h, rfl, by have := h.at_.lo; simp only; omega, Nat.le_refl _⟩) qa qa (fun _ => rfl) (by kernel_rfl) ?_; (conv => whnf))
  rintro ⟨m, l, r⟩ ⟨hP, hj, hk, hl⟩
  simp only at hP hj hk hl
  (repeat' ((conv => whnf); first | refine zE 600 (qeo) ?_ | fail))
  refine jam (fun _ => rfl) 600 (.bool false) (by kernel_rfl) qga (fun he => ?_) (fun he => ?_)
  · have he' : r.err = 0 := by simpa using he
    ((conv => whnf); refine zT 600 [0] (qag ht hP.at_ sRc) qa ?_)
    (repeat' ((conv => whnf); first | refine Ob.auto ?_ | (apply zB <;> intro hb <;> (try simp [-zd] at hb) <;> try (exfalso; omega))))
    · have e1 : took ts r sRc = r := if_neg (by rw [hb.2]; decide)
      have hQ := hP.pre he'
      have hm : 1 ≤ m := by have := hk he'; have := hP.at_.hi; omega
      obtain ⟨m, rfl⟩ : ∃ m', m = m' + 1 := ⟨m - 1, by omega⟩
      rw [jc, if_pos he', if_neg (by rw [hb.2]; decide)] at hj
      dsimp only
      rw [e1]
      ((conv => whnf); refine qbk (fun _ => rfl) (by kernel_rfl) 600 [.turn [0] [.ptr 0 0] [pso ts r] (stat r).1.av [(0, pso ts (stat r).2)]] (by kernel_rfl) ?_)
      (repeat' ((conv => whnf); first | refine Ob.auto ?_ | refine Ob.intro ?_ ?_ | fail))
      · exact ⟨hs r hQ, by kernel_rfl, leA, qa, by exact qb rfl, by exact qb rfl⟩
      have hst := hr r hP.at_
      have hk' : (stat r).2.err = 0 → (ts.length : Int) - (stat r).2.at_ ≤ m := fun h => by have := hg r hP.at_ h; have := hk he'; omega
      ((conv => whnf); refine ⟨(m, l ++ [(stat r).1], (stat r).2), ⟨hP.step hst he', hj, hk', by simp; omega⟩, ⟨qa, ⟨⟨⟨rfl, rfl, rfl⟩, rfl, by simp, qmm (t := (stat r).1) (by simp) rfl⟩, ⟨rfl, Le.refl _, Le.refl _, Le.refl _, Le.refl _, Le.refl _, Le.of_eq (congrArg (AV.own _ _ _) (by simp)), trivial⟩, qa⟩⟩, ⟨qa, qa⟩, ?_⟩; (first | omega | (dsimp only; omega) | skip))
    · have e1 : took ts r sRc = adv r := if_pos (hb he')
      have e2 : (l, adv r) = jc ts stat ts.length l0 p := by
        rw [← hj]
        cases m with
        | zero => have := hk he'; have := hP.at_.hi; omega
        | succ m => rw [jc, if_pos he', if_pos (hb he')]
      rw [← e2]
      dsimp only
      rw [e1]
      exact ⟨Le.refl _, qa⟩
  · have he' : ¬ (r.err = 0) := by simpa using he
    (repeat' ((conv => whnf); first | refine Ob.auto ?_ | (apply zB <;> intro hb <;> (try simp [-zd] at hb) <;> try (exfalso; omega))))
    have e2 : (l, r) = jc ts stat ts.length l0 p := by
      rw [← hj]
      cases m with
      | zero => rfl
      | succ m => rw [jc, if_neg he']
    rw [← e2]
    exact ⟨Le.refl _, qa⟩
end
end Go.Proofs.YtdoaagphhjggbaaGreatDoor
