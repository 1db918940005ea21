/- A text that is cut behind a token. Nothing of the program. -/
import Derived.Test.YtljcikhibikebaaLexPlain
namespace Go.Proofs.Ytljcikhibikebaa
namespace Lx
open Go.Sx

theorem spanN_take (p : UInt8 → Bool) (l : List UInt8) (e : Nat) : spanN p (l.take e) = min (spanN p l) e := by
  induction l generalizing e with
  | nil => simp [spanN]
  | cons b r ih =>
    cases e with
    | zero => simp [spanN]
    | succ e =>
      rw [List.take_succ_cons]
      simp only [spanN]
      by_cases h : p b = true
      · rw [if_pos h, if_pos h, ih]; omega
      · rw [if_neg h, if_neg h]; omega

theorem pre_take (xs l : List UInt8) (e : Nat) : xs.isPrefixOf (l.take e) = (xs.isPrefixOf l && decide (xs.length ≤ e)) := by
  induction xs generalizing l e with
  | nil => simp
  | cons x xs ih =>
    cases l with
    | nil => simp
    | cons b r =>
      cases e with
      | zero => simp
      | succ e =>
        rw [List.take_succ_cons]
        simp only [List.isPrefixOf_cons_cons, ih, List.length_cons, Nat.add_le_add_iff_right, Bool.and_assoc]

theorem first_take (b : UInt8) (r : List UInt8) (e : Nat) (h0 : firstN (b :: r) ≠ 0) (he : firstN (b :: r) ≤ e + 1) : firstN (b :: r.take e) = firstN (b :: r) ∧ firstK (b :: r.take e) = firstK (b :: r) := by
  refine ⟨?_, rfl⟩
  have ht : b :: r.take e = (b :: r).take (e + 1) := rfl
  simp only [firstN] at h0 he ⊢
  by_cases h2 : cls (b.toNat : Int) = 2
  · rw [if_pos h2] at h0 he ⊢
    rw [if_pos h2, ht, spanN_take]
    omega
  · rw [if_neg h2] at h0 he ⊢
    rw [if_neg h2]
    by_cases h3 : cls (b.toNat : Int) = 3
    · rw [if_pos h3] at h0 he ⊢
      rw [if_pos h3, ht, spanN_take]
      by_cases h6 : 6 < spanN digB (b :: r)
      · rw [if_pos h6] at h0; omega
      · rw [if_neg h6] at he ⊢
        rw [Nat.min_eq_left he, if_neg h6]
    · rw [if_neg h3] at h0 he ⊢
      rw [if_neg h3]
      rw [show (b :: r.take e) = (b :: r).take (e + 1) from rfl]
      unfold signN
      unfold signN at he
      simp only [pre_take, List.length_cons, List.length_nil]
      rw [List.take_succ_cons]
      by_cases hp : ([61, 61].isPrefixOf (b :: r) || [38, 38].isPrefixOf (b :: r) || [124, 124].isPrefixOf (b :: r)) = true
      · rw [if_pos hp] at he ⊢
        have : decide (0 + 1 + 1 ≤ e + 1) = true := by simp; omega
        rw [this]
        simp only [Bool.and_true]
        rw [if_pos hp]
      · rw [if_neg hp]
        simp only [Bool.not_eq_true, Bool.or_eq_false_iff] at hp
        rw [hp.1.1, hp.1.2, hp.2]
        simp

/-- where tokens lie -/
theorem lexR_pos (l : List UInt8) (p : Nat) : ∀ ts, lexR l p = .ok ts → ∀ t ∈ ts, (p : Int) ≤ t.pos ∧ t.pos + t.s.length ≤ p + l.length := by
  induction h : l.length using Nat.strongRecOn generalizing l p with
  | _ n ih =>
    intro ts hts t ht
    cases l with
    | nil => rw [lexR_nil] at hts; cases hts; simp at ht; subst ht; simp at h ⊢; omega
    | cons b r =>
      simp at h
      rw [lexR_cons] at hts
      split at hts
      · have := ih r.length (by omega) r (p + 1) rfl ts hts t ht; omega
      · split at hts
        · have := ih (r.drop (lineN r)).length (by simp; omega) _ _ rfl ts hts t ht
          have h2 := spanN_le (fun b => b != 10) r
          simp only [lineN] at this h2
          rw [List.length_drop] at this
          omega
        · split at hts
          · cases hts
          · rename_i h0
            have hle := firstN_le b r
            simp only [List.length_cons] at hle
            cases hu : lexR (r.drop (firstN (b :: r) - 1)) (p + firstN (b :: r)) with
            | error e => rw [hu] at hts; cases hts
            | ok us =>
              rw [hu] at hts
              simp only [Except.map, Except.ok.injEq] at hts
              subst hts
              rcases List.mem_cons.1 ht with rfl | ht
              · simp; omega
              · have := ih (r.drop (firstN (b :: r) - 1)).length (by simp; omega) _ _ rfl us hu t ht
                rw [List.length_drop] at this
                omega

theorem lexR_cut (l : List UInt8) (p : Nat) : ∀ ts, lexR l p = .ok ts → ∀ (k e : Nat), k + 1 < ts.length → (e : Int) + p = (ts.getD k tok0).pos + (ts.getD k tok0).s.length →
    lexR (l.take e) p = .ok (ts.take (k + 1) ++ [⟨3, [], (p + e : Nat)⟩]) := by
  induction h : l.length using Nat.strongRecOn generalizing l p with
  | _ n ih =>
    intro ts hts k e hk he
    have hmem : ts.getD k tok0 ∈ ts := by
      rw [List.getD_eq_getElem?_getD, List.getElem?_eq_getElem (by omega)]
      exact List.getElem_mem _
    cases l with
    | nil => rw [lexR_nil] at hts; cases hts; simp at hk
    | cons b r =>
      simp at h
      have hts0 := hts
      rw [lexR_cons] at hts
      split at hts
      · rename_i hb
        have hpos := lexR_pos r (p + 1) ts hts _ hmem
        obtain ⟨e, rfl⟩ : ∃ j, e = j + 1 := ⟨e - 1, by omega⟩
        rw [List.take_succ_cons, lexR_cons, if_pos hb, ih r.length (by omega) r (p + 1) rfl ts hts k e hk (by omega)]
        congr 4; omega
      · rename_i hb
        split at hts
        · rename_i hs
          have hpos := lexR_pos _ _ ts hts _ hmem
          obtain ⟨r', hr'⟩ := slash2_cons hs
          simp only [List.cons.injEq] at hr'
          obtain ⟨rfl, rfl⟩ := hr'
          have hl2 : lineN (47 :: r') = lineN r' + 1 := by simp [lineN, spanN]; omega
          obtain ⟨e, rfl⟩ : ∃ j, e = j + 2 := ⟨e - 2, by omega⟩
          have hs' : slash2 ((47 :: 47 :: r').take (e + 2)) = true := rfl
          rw [show (47 :: 47 :: r').take (e + 2) = 47 :: (47 :: r').take (e + 1) from rfl] at hs' ⊢
          have hln : lineN ((47 :: r').take (e + 1)) = lineN (47 :: r') := by
            rw [lineN, spanN_take]; change min (lineN (47 :: r')) (e + 1) = _; omega
          rw [lexR_cons, if_neg hb, if_pos hs', hln, List.drop_take]
          rw [ih ((47 :: r').drop (lineN (47 :: r'))).length (by simp at h ⊢; omega) _ _ rfl ts hts k (e + 1 - lineN (47 :: r')) hk (by omega)]
          congr 4; omega
        · rename_i hs
          split at hts
          · cases hts
          · rename_i h0
            have hle := firstN_le b r
            simp only [List.length_cons] at hle
            cases hu : lexR (r.drop (firstN (b :: r) - 1)) (p + firstN (b :: r)) with
            | error e => rw [hu] at hts; cases hts
            | ok us =>
              rw [hu] at hts
              simp only [Except.map, Except.ok.injEq] at hts
              have hen : firstN (b :: r) ≤ e := by
                subst hts
                cases k with
                | zero => simp at he; omega
                | succ k =>
                  have hmem' : us.getD k tok0 ∈ us := by
                    rw [List.getD_eq_getElem?_getD, List.getElem?_eq_getElem (by simp at hk; omega)]
                    exact List.getElem_mem _
                  have hpos := lexR_pos _ _ us hu _ hmem'
                  simp only [List.getD_cons_succ] at he
                  omega
              obtain ⟨e, rfl⟩ : ∃ j, e = j + 1 := ⟨e - 1, by omega⟩
              obtain ⟨hf1, hf2⟩ := first_take b r e h0 (by omega)
              have hs' : ¬ slash2 (b :: r.take e) = true := by
                intro hh
                rw [slash2, show b :: r.take e = (b :: r).take (e + 1) from rfl, pre_take, Bool.and_eq_true] at hh
                exact hs hh.1
              rw [List.take_succ_cons, lexR_cons, if_neg hb, if_neg hs', hf1, if_neg h0, hf2, List.drop_take]
              have htk : (b :: r.take e).take (firstN (b :: r)) = (b :: r).take (firstN (b :: r)) := by
                rw [show b :: r.take e = (b :: r).take (e + 1) from rfl, List.take_take, Nat.min_eq_left hen]
              rw [htk]
              subst hts
              cases k with
              | zero =>
                have : e + 1 = firstN (b :: r) := by simp at he; omega
                rw [show e - (firstN (b :: r) - 1) = 0 by omega, List.take_zero, lexR_nil]
                simp [Except.map, this]
              | succ k =>
                simp only [List.getD_cons_succ] at he
                rw [ih (r.drop (firstN (b :: r) - 1)).length (by simp; omega) _ _ rfl us hu k (e - (firstN (b :: r) - 1)) (by simpa using hk) (by omega)]
                simp only [Except.map, List.take_succ_cons, List.cons_append]
                congr 5; omega

end Lx
end Go.Proofs.Ytljcikhibikebaa
