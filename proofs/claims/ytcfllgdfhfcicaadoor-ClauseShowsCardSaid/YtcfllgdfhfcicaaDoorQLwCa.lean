/- The laws of layer 1: all clauses; beyond a model. -/
import Derived.Test.YtcfllgdfhfcicaaDoorQAw01
import Derived.Test.YtcfllgdfhfcicaaDoorQCn4
set_option linter.unusedSimpArgs false
set_option linter.unusedVariables false
namespace Go.Proofs.YtcfllgdfhfcicaaDoor
open Go Go.Sx Go.RowKit Go.St Go.Cl
set_option maxRecDepth 100000
set_option maxHeartbeats 4000000

theorem allB_iff (cs : List (List Int)) (m : List Bool) : allB cs m = true ↔ ∀ j, j < cs.length → holdsB (cs.getD j []) m = true := by
  unfold allB
  rw [List.all_eq_true]
  constructor
  · intro h j hj; exact h _ (getD_mem cs j [] hj)
  · intro h c hc
    obtain ⟨j, hj, rfl⟩ := List.mem_iff_getElem.1 hc
    have := h j hj
    rw [List.getD_eq_getElem?_getD, List.getElem?_eq_getElem hj] at this
    exact this

theorem allN (cs : List (List Int)) (m : List Bool) (i : Nat) (hi : i < cs.length) : allB (cs.take (i + 1)) m = (allB (cs.take i) m && holdsB (cs.getD i []) m) := by
  have h : cs.take (i + 1) = cs.take i ++ [cs.getD i []] := by
    rw [List.take_add_one, List.getD_eq_getElem?_getD, List.getElem?_eq_getElem hi]; rfl
  unfold allB
  rw [h, List.all_append]
  simp [-List.getD_eq_getElem?_getD]

theorem clauseAll_con (cs : List (List Int)) (m : List Bool) : Con Tryd.prog 5 [listsV cs, bools m] (.bool true) := by
  refine con_of_exec (T := tab Tryd.prog) (C := {}) 300 (fun _ => rfl) Tryd.func5 rfl (by kernel_rfl) (by kernel_rfl) (fun c0 rdb => ?_)
  by_cases hc : cs.length ≤ 60
  · (repeat' ((conv => whnf); first | (refine AltG.none (by kernel_rfl) (EndG.go ?_)) | (refine Ob.intro (OrdG.intro (by kernel_rfl)) ?_) | (refine Ob.auto ?_) | (refine call_eq (fun _ => rfl) 300 (awake01) (by rfl) (by kernel_rfl) ?_) | (refine gcall_eq (fun _ => rfl) 300 (fun hg => awake01) (by rfl) rflsA (by kernel_rfl) ?_) | (refine CallY.con (awake01) (by rfl) leA ?_) | (refine CallZ.con (fun hg => awake01) rflsA (by rfl) ?_) | (refine call_lend (fun _ => rfl) 300 (awake01) holdA (by repeat' (first | exact trivial | exact Le.refl _ | (refine And.intro ?_ ?_))) (by rfl) (by kernel_rfl) ?_) | (refine gcall_lend (fun _ => rfl) 300 (fun hg => awake01) (fun hg => holdA) (fun hg => (by repeat' (first | exact trivial | exact Le.refl _ | exact Le.cnd hg | (refine And.intro ?_ ?_)))) (by rfl) (by kernel_rfl) ?_) | (refine draw3n (fun _ => rfl) (by kernel_rfl) 300 (by rfl) ?_) | (refine Br.intro (fun hb => ?_) (fun hb => ?_) <;> (try simp [-List.getD_eq_getElem?_getD] at hb) <;> (try (exfalso; omega))) | (refine Ob.intro ?_ ?_)))
    · exact Le.refl _
    ((conv => whnf); refine loop_auto (fun _ => rfl) 300 1 (fun i : Nat => [(6, iv i), (5, .bool (allB (cs.take i) m))]) (fun _ => []) (fun i => i ≤ cs.length ∧ ∀ j, j < i → (cs.getD j []).length ≤ 40) (fun i => cs.length - i) (0) (⟨Nat.zero_le _, fun j hj => absurd hj (Nat.not_lt_zero j)⟩) subtA subtA (fun _ => rfl) (by kernel_rfl) ?_; (conv => whnf))
    rintro i ⟨hi, hp⟩
    by_cases hil : i < cs.length
    · by_cases hlen : (cs.getD i []).length ≤ 40
      · have h1 := holds_con01 (cs.getD i []) m (by omega)
        have hn := allN cs m i hil
        (repeat' ((conv => whnf); first | (refine AltG.none (by kernel_rfl) (EndG.go ?_)) | (refine Ob.intro (OrdG.intro (by kernel_rfl)) ?_) | (refine Ob.auto ?_) | (refine Ob.intro (by (exact ⟨by omega, by omega⟩)) ?_) | (refine call_eq (fun _ => rfl) 300 (h1) (by rfl) (by kernel_rfl) ?_) | (refine gcall_eq (fun _ => rfl) 300 (fun hg => h1) (by rfl) rflsA (by kernel_rfl) ?_) | (refine CallY.con (h1) (by rfl) leA ?_) | (refine CallZ.con (fun hg => h1) rflsA (by rfl) ?_) | (refine call_lend (fun _ => rfl) 300 (h1) holdA (by repeat' (first | exact trivial | exact Le.refl _ | (refine And.intro ?_ ?_))) (by rfl) (by kernel_rfl) ?_) | (refine gcall_lend (fun _ => rfl) 300 (fun hg => h1) (fun hg => holdA) (fun hg => (by repeat' (first | exact trivial | exact Le.refl _ | exact Le.cnd hg | (refine And.intro ?_ ?_)))) (by rfl) (by kernel_rfl) ?_) | (refine draw3n (fun _ => rfl) (by kernel_rfl) 300 (by rfl) ?_) | (refine Br.intro (fun hb => ?_) (fun hb => ?_) <;> (try simp [-List.getD_eq_getElem?_getD] at hb) <;> (try (exfalso; omega))) | (refine Ob.intro ?_ ?_)))
        rw [← hn]
        ((conv => whnf); refine ⟨i + 1, ⟨by omega, upto_succ hp hlen⟩, ⟨subtA, subtA⟩, ⟨subtA, subtA⟩, ?_⟩; (first | omega | (dsimp only; omega) | skip))
      · (repeat' ((conv => whnf); first | (refine AltG.none (by kernel_rfl) (EndG.go ?_)) | (refine Ob.intro (OrdG.intro (by kernel_rfl)) ?_) | (refine Ob.auto ?_) | (refine Ob.intro (by (exact ⟨by omega, by omega⟩)) ?_) | (refine draw3n (fun _ => rfl) (by kernel_rfl) 300 (by rfl) ?_) | (refine Br.intro (fun hb => ?_) (fun hb => ?_) <;> (try simp [-List.getD_eq_getElem?_getD] at hb) <;> (try (exfalso; omega))) | (refine Ob.intro ?_ ?_)))
        exact Le.refl _
    · obtain rfl : i = cs.length := by omega
      rw [List.take_length]
      have hm : ∀ c ∈ cs, c.length ≤ 1000000 := fun c hcm => by
        obtain ⟨j, hj, rfl⟩ := List.mem_iff_getElem.1 hcm
        have := hp j hj
        rw [List.getD_eq_getElem?_getD, List.getElem?_eq_getElem hj] at this
        simp only [Option.getD_some] at this
        omega
      have h1 := all_con01 cs m (by omega) hm
      have h2 := rall_con cs m (by omega) hm
      (repeat' ((conv => whnf); first | (refine AltG.none (by kernel_rfl) (EndG.go ?_)) | (refine Ob.intro (OrdG.intro (by kernel_rfl)) ?_) | (refine Ob.auto ?_) | (refine Ob.intro (by (exact ⟨by omega, by omega⟩)) ?_) | (refine call_eq (fun _ => rfl) 300 (h1) (by rfl) (by kernel_rfl) ?_) | (refine gcall_eq (fun _ => rfl) 300 (fun hg => h1) (by rfl) rflsA (by kernel_rfl) ?_) | (refine CallY.con (h1) (by rfl) leA ?_) | (refine CallZ.con (fun hg => h1) rflsA (by rfl) ?_) | (refine call_eq (fun _ => rfl) 300 (h2) (by rfl) (by kernel_rfl) ?_) | (refine gcall_eq (fun _ => rfl) 300 (fun hg => h2) (by rfl) rflsA (by kernel_rfl) ?_) | (refine CallY.con (h2) (by rfl) leA ?_) | (refine CallZ.con (fun hg => h2) rflsA (by rfl) ?_) | (refine call_lend (fun _ => rfl) 300 (h1) holdA (by repeat' (first | exact trivial | exact Le.refl _ | (refine And.intro ?_ ?_))) (by rfl) (by kernel_rfl) ?_) | (refine gcall_lend (fun _ => rfl) 300 (fun hg => h1) (fun hg => holdA) (fun hg => (by repeat' (first | exact trivial | exact Le.refl _ | exact Le.cnd hg | (refine And.intro ?_ ?_)))) (by rfl) (by kernel_rfl) ?_) | (refine call_lend (fun _ => rfl) 300 (h2) holdA (by repeat' (first | exact trivial | exact Le.refl _ | (refine And.intro ?_ ?_))) (by rfl) (by kernel_rfl) ?_) | (refine gcall_lend (fun _ => rfl) 300 (fun hg => h2) (fun hg => holdA) (fun hg => (by repeat' (first | exact trivial | exact Le.refl _ | exact Le.cnd hg | (refine And.intro ?_ ?_)))) (by rfl) (by kernel_rfl) ?_) | (refine draw3n (fun _ => rfl) (by kernel_rfl) 300 (by rfl) ?_) | (refine Br.intro (fun hb => ?_) (fun hb => ?_) <;> (try simp [-List.getD_eq_getElem?_getD] at hb) <;> (try (exfalso; omega))) | (refine Ob.intro ?_ ?_)))
      refine Le.of_eq (congrArg AV.bool ?_)
      cases allB cs m <;> rfl
  · (repeat' ((conv => whnf); first | (refine AltG.none (by kernel_rfl) (EndG.go ?_)) | (refine Ob.intro (OrdG.intro (by kernel_rfl)) ?_) | (refine Ob.auto ?_) | (refine call_eq (fun _ => rfl) 300 (awake01) (by rfl) (by kernel_rfl) ?_) | (refine gcall_eq (fun _ => rfl) 300 (fun hg => awake01) (by rfl) rflsA (by kernel_rfl) ?_) | (refine CallY.con (awake01) (by rfl) leA ?_) | (refine CallZ.con (fun hg => awake01) rflsA (by rfl) ?_) | (refine call_lend (fun _ => rfl) 300 (awake01) holdA (by repeat' (first | exact trivial | exact Le.refl _ | (refine And.intro ?_ ?_))) (by rfl) (by kernel_rfl) ?_) | (refine gcall_lend (fun _ => rfl) 300 (fun hg => awake01) (fun hg => holdA) (fun hg => (by repeat' (first | exact trivial | exact Le.refl _ | exact Le.cnd hg | (refine And.intro ?_ ?_)))) (by rfl) (by kernel_rfl) ?_) | (refine draw3n (fun _ => rfl) (by kernel_rfl) 300 (by rfl) ?_) | (refine Br.intro (fun hb => ?_) (fun hb => ?_) <;> (try simp [-List.getD_eq_getElem?_getD] at hb) <;> (try (exfalso; omega))) | (refine Ob.intro ?_ ?_)))
    all_goals first | exact Le.refl _ | (exfalso; omega)

def smallB (cs : List (List Int)) (n v : Int) : Bool := decide ((cs.length : Int) ≤ n) && cs.all fun c => decide ((c.length : Int) ≤ 30) && decide (greatL [c] ≤ v)

theorem small_no {cs : List (List Int)} {n v : Int} {i : Nat} (hi : i < cs.length) (h : ¬ (((cs.getD i []).length : Int) ≤ 30 ∧ greatL [cs.getD i []] ≤ v)) : smallB cs n v = false := by
  rw [Bool.eq_false_iff]
  intro k
  unfold smallB at k
  rw [Bool.and_eq_true] at k
  have := List.all_eq_true.1 k.2 _ (getD_mem cs i [] hi)
  rw [Bool.and_eq_true, decide_eq_true_eq, decide_eq_true_eq] at this
  exact h this

theorem small_len {cs : List (List Int)} {n v : Int} (h : smallB cs n v = true) : (cs.length : Int) ≤ n ∧ ∀ c ∈ cs, c.length ≤ 30 ∧ greatL [c] ≤ v := by
  unfold smallB at h
  rw [Bool.and_eq_true, decide_eq_true_eq] at h
  refine ⟨h.1, fun c hc => ?_⟩
  have := List.all_eq_true.1 h.2 c hc
  rw [Bool.and_eq_true, decide_eq_true_eq, decide_eq_true_eq] at this
  exact ⟨by omega, this.2⟩

theorem small_con01 (cs : List (List Int)) (n v : Int) (hn : n ≤ 1000000) : Con Tryd.prog 20 [listsV cs, iv n, iv v] (.bool (smallB cs n v)) := by
  by_cases hl : (cs.length : Int) ≤ n
  · refine con_of_exec (T := tab Tryd.prog) (C := {}) 300 (fun _ => rfl) Tryd.func20 rfl (by kernel_rfl) (by kernel_rfl) (fun c0 rdb => ?_)
    (repeat' ((conv => whnf); first | (refine AltG.none (by kernel_rfl) (EndG.go ?_)) | (refine Ob.intro (OrdG.intro (by kernel_rfl)) ?_) | (refine Ob.auto ?_) | (refine draw3n (fun _ => rfl) (by kernel_rfl) 300 (by rfl) ?_) | (refine Br.intro (fun hb => ?_) (fun hb => ?_) <;> (try simp [-List.getD_eq_getElem?_getD] at hb) <;> (try (exfalso; omega))) | (refine Ob.intro ?_ ?_)))
    ((conv => whnf); refine loop_auto (fun _ => rfl) 300 1 (fun i : Nat => [(7, iv i)]) (fun _ => []) (fun i => i ≤ cs.length ∧ ∀ j, j < i → ((cs.getD j []).length : Int) ≤ 30 ∧ greatL [cs.getD j []] ≤ v) (fun i => cs.length - i) (0) (⟨Nat.zero_le _, fun j hj => absurd hj (Nat.not_lt_zero j)⟩) subtA subtA (fun _ => rfl) (by kernel_rfl) ?_; (conv => whnf))
    rintro i ⟨hi, hp⟩
    by_cases hil : i < cs.length
    · by_cases hlen : (cs.getD i []).length ≤ 30
      · have h1 := rgreat_con [cs.getD i []] (Nat.le_of_ble_eq_true rfl) (fun c hc => by simp only [List.mem_singleton] at hc; subst hc; omega)
        have hle : Le (.slc 1 (((i : Int) + 1).toNat - (i : Int).toNat) fun k => encL (fun l => [ints l]) [] cs ((i : Int).toNat + k)) (listsV [cs.getD i []]) := Le.slc (by show _ = 1; omega) fun k hk => by
          have hk : k = 0 := by omega
          subst hk
          rfl
        (repeat' ((conv => whnf); first | (refine AltG.none (by kernel_rfl) (EndG.go ?_)) | (refine Ob.intro (OrdG.intro (by kernel_rfl)) ?_) | (refine Ob.auto ?_) | (refine Ob.intro (by (exact ⟨by omega, by omega⟩)) ?_) | (refine draw3n (fun _ => rfl) (by kernel_rfl) 300 (by rfl) ?_) | (refine Br.intro (fun hb => ?_) (fun hb => ?_) <;> (try simp [-List.getD_eq_getElem?_getD] at hb) <;> (try (exfalso; omega))) | (refine Ob.intro ?_ ?_)))
        ((conv => whnf); refine gcall_join (fun _ => rfl) 300 (fun _ => h1) (by rfl) (fun hg => ⟨(Le.cnd hg).trans hle, trivial⟩) (by kernel_rfl) ?_)
        (repeat' ((conv => whnf); first | (refine AltG.none (by kernel_rfl) (EndG.go ?_)) | (refine Ob.intro (OrdG.intro (by kernel_rfl)) ?_) | (refine Ob.auto ?_) | (refine Ob.intro (by (exact ⟨by omega, by omega⟩)) ?_) | (refine draw3n (fun _ => rfl) (by kernel_rfl) 300 (by rfl) ?_) | (refine Br.intro (fun hb => ?_) (fun hb => ?_) <;> (try simp [-List.getD_eq_getElem?_getD] at hb) <;> (try (exfalso; omega))) | (refine Ob.intro ?_ ?_)))
        · refine Le.of_eq (congrArg AV.bool (small_no hil fun h => ?_).symm)
          omega
        · ((conv => whnf); refine ⟨i + 1, ⟨by omega, upto_succ hp hb⟩, ⟨subtA, subtA⟩, ⟨subtA, subtA⟩, ?_⟩; (first | omega | (dsimp only; omega) | skip))
      · (repeat' ((conv => whnf); first | (refine AltG.none (by kernel_rfl) (EndG.go ?_)) | (refine Ob.intro (OrdG.intro (by kernel_rfl)) ?_) | (refine Ob.auto ?_) | (refine Ob.intro (by (exact ⟨by omega, by omega⟩)) ?_) | (refine draw3n (fun _ => rfl) (by kernel_rfl) 300 (by rfl) ?_) | (refine Br.intro (fun hb => ?_) (fun hb => ?_) <;> (try simp [-List.getD_eq_getElem?_getD] at hb) <;> (try (exfalso; omega))) | (refine Ob.intro ?_ ?_)))
        have hno : (!decide ((30 : Int) < ((cs.getD (i : Int).toNat []).length : Int))) = true → Con Tryd.prog 24 [.slc 1 (((i : Int) + 1).toNat - (i : Int).toNat) fun k => encL (fun l => [ints l]) [] cs ((i : Int).toNat + k)] (iv 0) := fun h => by
          simp [-List.getD_eq_getElem?_getD] at h; omega
        ((conv => whnf); refine gcall_join (fun _ => rfl) 300 (fun hg => hno hg) (by rfl) (fun hg => ⟨Le.cnd hg, trivial⟩) (by kernel_rfl) ?_)
        (repeat' ((conv => whnf); first | (refine AltG.none (by kernel_rfl) (EndG.go ?_)) | (refine Ob.intro (OrdG.intro (by kernel_rfl)) ?_) | (refine Ob.auto ?_) | (refine Ob.intro (by (exact ⟨by omega, by omega⟩)) ?_) | (refine draw3n (fun _ => rfl) (by kernel_rfl) 300 (by rfl) ?_) | (refine Br.intro (fun hb => ?_) (fun hb => ?_) <;> (try simp [-List.getD_eq_getElem?_getD] at hb) <;> (try (exfalso; omega))) | (refine Ob.intro ?_ ?_)))
        refine Le.of_eq (congrArg AV.bool (small_no hil fun h => ?_).symm)
        omega
    · obtain rfl : i = cs.length := by omega
      (repeat' ((conv => whnf); first | (refine AltG.none (by kernel_rfl) (EndG.go ?_)) | (refine Ob.intro (OrdG.intro (by kernel_rfl)) ?_) | (refine Ob.auto ?_) | (refine Ob.intro (by (exact ⟨by omega, by omega⟩)) ?_) | (refine draw3n (fun _ => rfl) (by kernel_rfl) 300 (by rfl) ?_) | (refine Br.intro (fun hb => ?_) (fun hb => ?_) <;> (try simp [-List.getD_eq_getElem?_getD] at hb) <;> (try (exfalso; omega))) | (refine Ob.intro ?_ ?_)))
      refine Le.of_eq (congrArg AV.bool ?_)
      unfold smallB
      rw [decide_eq_true hl, Bool.true_and]
      refine (List.all_eq_true.2 fun c hc => ?_).symm
      obtain ⟨j, hj, rfl⟩ := List.mem_iff_getElem.1 hc
      have := hp j hj
      rw [List.getD_eq_getElem?_getD, List.getElem?_eq_getElem hj] at this
      rw [Bool.and_eq_true, decide_eq_true_eq, decide_eq_true_eq]
      exact this
  · refine con_of_exec (T := tab Tryd.prog) (C := {}) 300 (fun _ => rfl) Tryd.func20 rfl (by kernel_rfl) (by kernel_rfl) (fun c0 rdb => ?_)
    (repeat' ((conv => whnf); first | (refine AltG.none (by kernel_rfl) (EndG.go ?_)) | (refine Ob.intro (OrdG.intro (by kernel_rfl)) ?_) | (refine Ob.auto ?_) | (refine draw3n (fun _ => rfl) (by kernel_rfl) 300 (by rfl) ?_) | (refine Br.intro (fun hb => ?_) (fun hb => ?_) <;> (try simp [-List.getD_eq_getElem?_getD] at hb) <;> (try (exfalso; omega))) | (refine Ob.intro ?_ ?_)))
    unfold smallB
    rw [decide_eq_false hl, Bool.false_and]
    exact Le.refl _

theorem isTrue_more (m : List Bool) (l : Int) (h : 1 ≤ absI l) : Cl.isTrue (m ++ [false, false, false]) l = Cl.isTrue m l := by
  unfold Cl.isTrue
  congr 1
  by_cases hk : (absI l - 1).toNat < m.length
  · have e1 : (m ++ [false, false, false]).getD (absI l - 1).toNat false = m.getD (absI l - 1).toNat false := by
      rw [List.getD_eq_getElem?_getD, List.getElem?_append_left hk, ← List.getD_eq_getElem?_getD]
    rw [e1, decide_eq_true (by simp; omega), decide_eq_true (by omega)]
  · have e1 : (m ++ [false, false, false]).getD (absI l - 1).toNat false = false := by
      rw [List.getD_eq_getElem?_getD, List.getElem?_append_right (by omega)]
      generalize (absI l - 1).toNat - m.length = q
      match q with
      | 0 => rfl
      | 1 => rfl
      | 2 => rfl
      | q + 3 => rfl
    have e2 : m.getD (absI l - 1).toNat false = false := by
      rw [List.getD_eq_getElem?_getD, List.getElem?_eq_none (by omega)]; rfl
    rw [e1, e2, Bool.and_false, Bool.and_false]

theorem allB_more (cs : List (List Int)) (m : List Bool) : allB cs (m ++ [false, false, false]) = allB cs m := by
  unfold allB
  congr 1
  funext c
  unfold holdsB
  congr 1
  funext l
  by_cases h : litB l = true
  · rw [isTrue_more m l (by have := (lit_iff l).1 h; unfold absI; omega)]
  · rw [(Bool.not_eq_true _).mp h]; rfl

theorem clauseBeyond_con (cs : List (List Int)) (m : List Bool) (h1 : cs.length ≤ 9223372036854775807) (h2 : ∀ c ∈ cs, c.length ≤ 9223372036854775807) : Con Tryd.prog 6 [listsV cs, bools m] (.bool true) := by
  have hs := small_con01 cs 40 100000 (by decide)
  refine con_of_exec (T := tab Tryd.prog) (C := {lit := true}) 300 (fun _ => rfl) Tryd.func6 rfl (by kernel_rfl) (by kernel_rfl) (fun c0 rdb => ?_)
  (repeat' ((conv => whnf); first | (refine AltG.none (by kernel_rfl) (EndG.go ?_)) | (refine Ob.intro (OrdG.intro (by kernel_rfl)) ?_) | (refine Ob.auto ?_) | (refine call_eq (fun _ => rfl) 300 (awake01) (by rfl) (by kernel_rfl) ?_) | (refine gcall_eq (fun _ => rfl) 300 (fun hg => awake01) (by rfl) rflsA (by kernel_rfl) ?_) | (refine CallY.con (awake01) (by rfl) leA ?_) | (refine CallZ.con (fun hg => awake01) rflsA (by rfl) ?_) | (refine call_eq (fun _ => rfl) 300 (hs) (by rfl) (by kernel_rfl) ?_) | (refine gcall_eq (fun _ => rfl) 300 (fun hg => hs) (by rfl) rflsA (by kernel_rfl) ?_) | (refine CallY.con (hs) (by rfl) leA ?_) | (refine CallZ.con (fun hg => hs) rflsA (by rfl) ?_) | (refine call_lend (fun _ => rfl) 300 (awake01) holdA (by repeat' (first | exact trivial | exact Le.refl _ | (refine And.intro ?_ ?_))) (by rfl) (by kernel_rfl) ?_) | (refine gcall_lend (fun _ => rfl) 300 (fun hg => awake01) (fun hg => holdA) (fun hg => (by repeat' (first | exact trivial | exact Le.refl _ | exact Le.cnd hg | (refine And.intro ?_ ?_)))) (by rfl) (by kernel_rfl) ?_) | (refine call_lend (fun _ => rfl) 300 (hs) holdA (by repeat' (first | exact trivial | exact Le.refl _ | (refine And.intro ?_ ?_))) (by rfl) (by kernel_rfl) ?_) | (refine gcall_lend (fun _ => rfl) 300 (fun hg => hs) (fun hg => holdA) (fun hg => (by repeat' (first | exact trivial | exact Le.refl _ | exact Le.cnd hg | (refine And.intro ?_ ?_)))) (by rfl) (by kernel_rfl) ?_) | (refine draw3n (fun _ => rfl) (by kernel_rfl) 300 (by rfl) ?_) | (refine Br.intro (fun hb => ?_) (fun hb => ?_) <;> (try simp [-List.getD_eq_getElem?_getD] at hb) <;> (try (exfalso; omega))) | (refine Ob.intro ?_ ?_)))
  · exact Le.refl _
  obtain ⟨hsl, hsm⟩ := small_len hb.1
  have hm : ∀ c ∈ cs, c.length ≤ 1000000 := fun c hc => by have := (hsm c hc).1; omega
  have c1 := all_con01 cs m (by omega) hm
  have c2 := all_con01 cs (m ++ [false, false, false]) (by omega) hm
  rw [allB_more] at c2
  ((conv => whnf); refine call_rule (fun _ => rfl) 300 (c1) (by rfl) leA (by kernel_rfl) ?_)
  (repeat' ((conv => whnf); first | (refine AltG.none (by kernel_rfl) (EndG.go ?_)) | (refine Ob.intro (OrdG.intro (by kernel_rfl)) ?_) | (refine Ob.auto ?_) | (refine draw3n (fun _ => rfl) (by kernel_rfl) 300 (by rfl) ?_) | (refine Br.intro (fun hb => ?_) (fun hb => ?_) <;> (try simp [-List.getD_eq_getElem?_getD] at hb) <;> (try (exfalso; omega))) | (refine Ob.intro ?_ ?_)))
  ((conv => whnf); refine call_lend (fun _ => rfl) 300 c2 holdA ⟨Le.refl _, Le.slc ?_ (fun k hk => ?_), trivial⟩ (by rfl) (by kernel_rfl) ?_)
  · simp
  · have hk : k < 0 + m.length + 3 := hk
    show appF (0 + m.length) (appF 0 (chop 1 []) m.length (encL (fun b => [AV.bool b]) false m)) 3 (chop 1 [AV.bool false, AV.bool false, AV.bool false]) k = encL (fun b => [AV.bool b]) false (m ++ [false, false, false]) k
    by_cases h : k < 0 + m.length
    · rw [appF_lt h, appF_ge (Nat.not_lt_zero k) h]
      show [AV.bool (m.getD (k - 0) false)] = [AV.bool ((m ++ [false, false, false]).getD k false)]
      rw [Nat.sub_zero, List.getD_eq_getElem?_getD (l := m ++ _), List.getElem?_append_left (by omega), ← List.getD_eq_getElem?_getD]
    · rw [appF_ge h hk]
      show _ = [AV.bool ((m ++ [false, false, false]).getD k false)]
      rw [List.getD_eq_getElem?_getD, List.getElem?_append_right (by omega), show k - (0 + m.length) = k - m.length by omega]
      have hq : k - m.length < 3 := by omega
      generalize k - m.length = q at hq
      match q, hq with
      | 0, _ => rfl
      | 1, _ => rfl
      | 2, _ => rfl
  (repeat' ((conv => whnf); first | (refine AltG.none (by kernel_rfl) (EndG.go ?_)) | (refine Ob.intro (OrdG.intro (by kernel_rfl)) ?_) | (refine Ob.auto ?_) | (refine draw3n (fun _ => rfl) (by kernel_rfl) 300 (by rfl) ?_) | (refine Br.intro (fun hb => ?_) (fun hb => ?_) <;> (try simp [-List.getD_eq_getElem?_getD] at hb) <;> (try (exfalso; omega))) | (refine Ob.intro ?_ ?_)))
  refine Le.of_eq (congrArg AV.bool ?_)
  cases allB cs m <;> rfl

end Go.Proofs.YtcfllgdfhfcicaaDoor
