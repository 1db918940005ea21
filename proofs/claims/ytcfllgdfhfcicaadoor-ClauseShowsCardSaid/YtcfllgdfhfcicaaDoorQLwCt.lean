/- The laws ClauseShows and ClauseParses. -/
import Derived.Test.YtcfllgdfhfcicaaDoorQClD
import Derived.Test.YtcfllgdfhfcicaaDoorQClM
import Derived.Test.YtcfllgdfhfcicaaDoorQLwCa
set_option linter.unusedSimpArgs false
set_option linter.unusedVariables false
namespace Go.Proofs.YtcfllgdfhfcicaaDoor
open Go Go.Sx Go.RowKit Go.St Go.Cl
set_option maxRecDepth 100000
set_option maxHeartbeats 4000000

theorem goP_len (v : Int) (M : Nat) : ∀ (ws : List (List UInt8)) (out : List (List Int)) (now : List Int) (x : List (List Int) × List Int), goP v ws out now = some x → (∀ c ∈ out, c.length ≤ M) → now.length + ws.length ≤ M → x.1.length ≤ out.length + ws.length ∧ ∀ c ∈ x.1, c.length ≤ M
  | [], out, now, x, h, ho, _ => by
    cases h
    exact ⟨Nat.le_refl _, ho⟩
  | w :: ws, out, now, x, h, ho, hn => by
    have hw : (w :: ws).length = ws.length + 1 := rfl
    unfold goP at h
    split at h
    · cases h
    · split at h
      · have := goP_len v M ws _ _ x h (fun c hc => by
          rcases List.mem_append.1 hc with hc | hc
          · exact ho c hc
          · rw [List.mem_singleton.1 hc]; omega) (by rw [List.length_nil]; omega)
        rw [List.length_append, List.length_singleton] at this
        exact ⟨by omega, this.2⟩
      · have := goP_len v M ws _ _ x h ho (by rw [List.length_append, List.length_singleton]; omega)
        exact ⟨by omega, this.2⟩

theorem parseC_len (s : List UInt8) : (parseC s).1.length ≤ s.length ∧ ∀ c ∈ (parseC s).1, c.length ≤ s.length := by
  have hz : (([], 12) : List (List Int) × Int).1.length ≤ s.length ∧ ∀ c ∈ (([], 12) : List (List Int) × Int).1, c.length ≤ s.length := ⟨Nat.zero_le _, fun c hc => absurd hc List.not_mem_nil⟩
  have hW := words_len s
  unfold parseC
  split
  · exact hz
  · unfold parseW
    split
    · unfold endP
      split
      · rename_i x hx
        have := goP_len _ s.length _ _ _ x hx (fun c hc => absurd hc List.not_mem_nil) (by rw [List.length_drop, List.length_nil]; omega)
        rw [List.length_drop, List.length_nil] at this
        split
        · exact ⟨by dsimp only; omega, this.2⟩
        · exact ⟨Nat.zero_le _, fun c hc => absurd hc List.not_mem_nil⟩
      · exact ⟨Nat.zero_le _, fun c hc => absurd hc List.not_mem_nil⟩
    · exact ⟨Nat.zero_le _, fun c hc => absurd hc List.not_mem_nil⟩

theorem body_le : ∀ (cs : List (List Int)), cs.all rightB = true → (∀ c ∈ cs, c.length ≤ 30) → (bodyC cs).length ≤ 662 * cs.length
  | [], _, _ => Nat.le_refl _
  | c :: cs, hr, hm => by
    rw [List.all_cons, Bool.and_eq_true] at hr
    have ih := body_le cs hr.2 (fun x hx => hm x (List.mem_cons_of_mem _ hx))
    have h1 := lineT_le c hr.1 c.length
    have h2 := hm c (List.mem_cons_self ..)
    rw [List.take_length] at h1
    unfold bodyC at ih ⊢
    rw [List.flatMap_cons, List.length_append, List.length_append, List.length_cons]
    simp only [List.length_cons, List.length_nil]
    omega

theorem show_le (cs : List (List Int)) (hr : cs.all rightB = true) (hl : cs.length ≤ 60) (hm : ∀ c ∈ cs, c.length ≤ 30) : (showT cs).length ≤ 100000 := by
  have hg := greatL_le cs
  have h := body_le cs hr hm
  have hi1 := Lib.itoa_length_le (greatL cs) (by omega) (by omega)
  have hi2 := Lib.itoa_length_le (cs.length : Int) (by omega) (by omega)
  have hh : (headT cs).length ≤ 60 := by simp [headT]; omega
  unfold showT
  rw [hr, cond_true, List.length_append]
  omega

theorem clauseParses_con (s : List UInt8) : Con Tryd.prog 8 [.str s] (.bool true) := by
  by_cases hs : s.length ≤ 2000
  · have h1 := parse_con01 s
    have h2 := rparse_con01 s
    have h3 := lists_con01 (parseC s).1 (parseC s).1 (by have := (parseC_len s).1; omega) (fun c hc => by have := (parseC_len s).2 c hc; omega)
    rw [beq_self_eq_true] at h3
    generalize parseC s = R at h1 h2 h3
    refine con_of_exec (T := tab Tryd.prog) (C := {}) 300 (fun _ => rfl) Tryd.func8 rfl (by kernel_rfl) (by kernel_rfl) (fun c0 rdb => ?_)
    (repeat' ((conv => whnf); first | (refine Ob.intro (OrdG.intro (by kernel_rfl)) ?_) | (refine Ob.auto ?_) | (refine call_eq (fun _ => rfl) 300 (awake01) (by rfl) (by kernel_rfl) ?_) | (refine gcall_eq (fun _ => rfl) 300 (fun hg => awake01) (by rfl) rflsA (by kernel_rfl) ?_) | (refine CallX.intro _ (callOb (awake01) (by rfl)) ?_) | (refine CallX.intro _ (callObG (fun hg => awake01) rflsA (by rfl)) ?_) | (refine call_eq (fun _ => rfl) 300 (h1) (by rfl) (by kernel_rfl) ?_) | (refine gcall_eq (fun _ => rfl) 300 (fun hg => h1) (by rfl) rflsA (by kernel_rfl) ?_) | (refine CallX.intro _ (callOb (h1) (by rfl)) ?_) | (refine CallX.intro _ (callObG (fun hg => h1) rflsA (by rfl)) ?_) | (refine call_eq (fun _ => rfl) 300 (h2) (by rfl) (by kernel_rfl) ?_) | (refine gcall_eq (fun _ => rfl) 300 (fun hg => h2) (by rfl) rflsA (by kernel_rfl) ?_) | (refine CallX.intro _ (callOb (h2) (by rfl)) ?_) | (refine CallX.intro _ (callObG (fun hg => h2) rflsA (by rfl)) ?_) | (refine call_eq (fun _ => rfl) 300 (h3) (by rfl) (by kernel_rfl) ?_) | (refine gcall_eq (fun _ => rfl) 300 (fun hg => h3) (by rfl) rflsA (by kernel_rfl) ?_) | (refine CallX.intro _ (callOb (h3) (by rfl)) ?_) | (refine CallX.intro _ (callObG (fun hg => h3) rflsA (by rfl)) ?_) | (refine call_lend (fun _ => rfl) 300 (awake01) holdA (by repeat' (first | exact trivial | exact Le.refl _ | (refine And.intro ?_ ?_))) (by rfl) (by kernel_rfl) ?_) | (refine gcall_lend (fun _ => rfl) 300 (fun hg => awake01) (fun hg => holdA) (fun hg => (by repeat' (first | exact trivial | exact Le.refl _ | exact Le.cnd hg | (refine And.intro ?_ ?_)))) (by rfl) (by kernel_rfl) ?_) | (refine call_lend (fun _ => rfl) 300 (h1) holdA (by repeat' (first | exact trivial | exact Le.refl _ | (refine And.intro ?_ ?_))) (by rfl) (by kernel_rfl) ?_) | (refine gcall_lend (fun _ => rfl) 300 (fun hg => h1) (fun hg => holdA) (fun hg => (by repeat' (first | exact trivial | exact Le.refl _ | exact Le.cnd hg | (refine And.intro ?_ ?_)))) (by rfl) (by kernel_rfl) ?_) | (refine call_lend (fun _ => rfl) 300 (h2) holdA (by repeat' (first | exact trivial | exact Le.refl _ | (refine And.intro ?_ ?_))) (by rfl) (by kernel_rfl) ?_) | (refine gcall_lend (fun _ => rfl) 300 (fun hg => h2) (fun hg => holdA) (fun hg => (by repeat' (first | exact trivial | exact Le.refl _ | exact Le.cnd hg | (refine And.intro ?_ ?_)))) (by rfl) (by kernel_rfl) ?_) | (refine call_lend (fun _ => rfl) 300 (h3) holdA (by repeat' (first | exact trivial | exact Le.refl _ | (refine And.intro ?_ ?_))) (by rfl) (by kernel_rfl) ?_) | (refine gcall_lend (fun _ => rfl) 300 (fun hg => h3) (fun hg => holdA) (fun hg => (by repeat' (first | exact trivial | exact Le.refl _ | exact Le.cnd hg | (refine And.intro ?_ ?_)))) (by rfl) (by kernel_rfl) ?_) | (refine draw3_x (fun _ => rfl) (by kernel_rfl) 300 ?_) | (refine Br.intro (fun hb => ?_) (fun hb => ?_) <;> (try simp [-List.getD_eq_getElem?_getD] at hb) <;> (try (exfalso; omega))) | (refine Ob.intro ?_ ?_)))
    exact Le.of_eq (congrArg AV.bool (by rw [beq_self_eq_true]; rfl))
  · refine con_of_exec (T := tab Tryd.prog) (C := {}) 300 (fun _ => rfl) Tryd.func8 rfl (by kernel_rfl) (by kernel_rfl) (fun c0 rdb => ?_)
    (repeat' ((conv => whnf); first | (refine Ob.intro (OrdG.intro (by kernel_rfl)) ?_) | (refine Ob.auto ?_) | (refine call_eq (fun _ => rfl) 300 (awake01) (by rfl) (by kernel_rfl) ?_) | (refine gcall_eq (fun _ => rfl) 300 (fun hg => awake01) (by rfl) rflsA (by kernel_rfl) ?_) | (refine CallX.intro _ (callOb (awake01) (by rfl)) ?_) | (refine CallX.intro _ (callObG (fun hg => awake01) rflsA (by rfl)) ?_) | (refine call_lend (fun _ => rfl) 300 (awake01) holdA (by repeat' (first | exact trivial | exact Le.refl _ | (refine And.intro ?_ ?_))) (by rfl) (by kernel_rfl) ?_) | (refine gcall_lend (fun _ => rfl) 300 (fun hg => awake01) (fun hg => holdA) (fun hg => (by repeat' (first | exact trivial | exact Le.refl _ | exact Le.cnd hg | (refine And.intro ?_ ?_)))) (by rfl) (by kernel_rfl) ?_) | (refine draw3_x (fun _ => rfl) (by kernel_rfl) 300 ?_) | (refine Br.intro (fun hb => ?_) (fun hb => ?_) <;> (try simp [-List.getD_eq_getElem?_getD] at hb) <;> (try (exfalso; omega))) | (refine Ob.intro ?_ ?_)))
    all_goals exact Le.refl _

theorem clauseShows_con (cs : List (List Int)) (h1 : cs.length ≤ 9223372036854775807) (h2 : ∀ c ∈ cs, c.length ≤ 9223372036854775807) : Con Tryd.prog 7 [listsV cs] (.bool true) := by
  have hs := small_con01 cs 60 100000 (by decide)
  cases hsm : smallB cs 60 100000 with
  | false =>
    rw [hsm] at hs
    refine con_of_exec (T := tab Tryd.prog) (C := {}) 300 (fun _ => rfl) Tryd.func7 rfl (by kernel_rfl) (by kernel_rfl) (fun c0 rdb => ?_)
    (repeat' ((conv => whnf); first | (refine AltG.none (by kernel_rfl) (EndG.go ?_)) | (refine Ob.intro (OrdG.intro (by kernel_rfl)) ?_) | (refine Ob.auto ?_) | (refine call_eq (fun _ => rfl) 300 (awake01) (by rfl) (by kernel_rfl) ?_) | (refine gcall_eq (fun _ => rfl) 300 (fun hg => awake01) (by rfl) rflsA (by kernel_rfl) ?_) | (refine CallY.con (awake01) (by rfl) leA ?_) | (refine CallZ.con (fun hg => awake01) rflsA (by rfl) ?_) | (refine call_eq (fun _ => rfl) 300 (hs) (by rfl) (by kernel_rfl) ?_) | (refine gcall_eq (fun _ => rfl) 300 (fun hg => hs) (by rfl) rflsA (by kernel_rfl) ?_) | (refine CallY.con (hs) (by rfl) leA ?_) | (refine CallZ.con (fun hg => hs) rflsA (by rfl) ?_) | (refine call_lend (fun _ => rfl) 300 (awake01) holdA (by repeat' (first | exact trivial | exact Le.refl _ | (refine And.intro ?_ ?_))) (by rfl) (by kernel_rfl) ?_) | (refine gcall_lend (fun _ => rfl) 300 (fun hg => awake01) (fun hg => holdA) (fun hg => (by repeat' (first | exact trivial | exact Le.refl _ | exact Le.cnd hg | (refine And.intro ?_ ?_)))) (by rfl) (by kernel_rfl) ?_) | (refine call_lend (fun _ => rfl) 300 (hs) holdA (by repeat' (first | exact trivial | exact Le.refl _ | (refine And.intro ?_ ?_))) (by rfl) (by kernel_rfl) ?_) | (refine gcall_lend (fun _ => rfl) 300 (fun hg => hs) (fun hg => holdA) (fun hg => (by repeat' (first | exact trivial | exact Le.refl _ | exact Le.cnd hg | (refine And.intro ?_ ?_)))) (by rfl) (by kernel_rfl) ?_) | (refine draw3n (fun _ => rfl) (by kernel_rfl) 300 (by rfl) ?_) | (refine Br.intro (fun hb => ?_) (fun hb => ?_) <;> (try simp [-List.getD_eq_getElem?_getD] at hb) <;> (try (exfalso; omega))) | (refine Ob.intro ?_ ?_)))
    all_goals exact Le.refl _
  | true =>
    rw [hsm] at hs
    obtain ⟨hl, hm⟩ := small_len hsm
    have hm1 : ∀ c ∈ cs, c.length ≤ 1000 := fun c hc => by have := (hm c hc).1; omega
    have hm2 : ∀ c ∈ cs, c.length ≤ 1000000 := fun c hc => by have := (hm c hc).1; omega
    have c1 := show_con cs (by omega) hm1
    have c2 := rshow_con01 cs (by omega) hm1
    have c3 := great_con cs (by omega) hm2
    have c4 := rgreat_con cs (by omega) hm2
    have c5 := parse_con01 (showT cs)
    cases hr : cs.all rightB with
    | false =>
      have e : showT cs = [] := by unfold showT; rw [hr]; rfl
      rw [e] at c1 c2 c5
      rw [show parseC [] = ([], 11) by decide] at c5
      refine con_of_exec (T := tab Tryd.prog) (C := {}) 300 (fun _ => rfl) Tryd.func7 rfl (by kernel_rfl) (by kernel_rfl) (fun c0 rdb => ?_)
      (repeat' ((conv => whnf); first | (refine Ob.intro (OrdG.intro (by kernel_rfl)) ?_) | (refine Ob.auto ?_) | (refine call_eq (fun _ => rfl) 300 (awake01) (by rfl) (by kernel_rfl) ?_) | (refine gcall_eq (fun _ => rfl) 300 (fun hg => awake01) (by rfl) rflsA (by kernel_rfl) ?_) | (refine CallX.intro _ (callOb (awake01) (by rfl)) ?_) | (refine CallX.intro _ (callObG (fun hg => awake01) rflsA (by rfl)) ?_) | (refine call_eq (fun _ => rfl) 300 (hs) (by rfl) (by kernel_rfl) ?_) | (refine gcall_eq (fun _ => rfl) 300 (fun hg => hs) (by rfl) rflsA (by kernel_rfl) ?_) | (refine CallX.intro _ (callOb (hs) (by rfl)) ?_) | (refine CallX.intro _ (callObG (fun hg => hs) rflsA (by rfl)) ?_) | (refine call_eq (fun _ => rfl) 300 (c1) (by rfl) (by kernel_rfl) ?_) | (refine gcall_eq (fun _ => rfl) 300 (fun hg => c1) (by rfl) rflsA (by kernel_rfl) ?_) | (refine CallX.intro _ (callOb (c1) (by rfl)) ?_) | (refine CallX.intro _ (callObG (fun hg => c1) rflsA (by rfl)) ?_) | (refine call_eq (fun _ => rfl) 300 (c2) (by rfl) (by kernel_rfl) ?_) | (refine gcall_eq (fun _ => rfl) 300 (fun hg => c2) (by rfl) rflsA (by kernel_rfl) ?_) | (refine CallX.intro _ (callOb (c2) (by rfl)) ?_) | (refine CallX.intro _ (callObG (fun hg => c2) rflsA (by rfl)) ?_) | (refine call_eq (fun _ => rfl) 300 (c3) (by rfl) (by kernel_rfl) ?_) | (refine gcall_eq (fun _ => rfl) 300 (fun hg => c3) (by rfl) rflsA (by kernel_rfl) ?_) | (refine CallX.intro _ (callOb (c3) (by rfl)) ?_) | (refine CallX.intro _ (callObG (fun hg => c3) rflsA (by rfl)) ?_) | (refine call_eq (fun _ => rfl) 300 (c4) (by rfl) (by kernel_rfl) ?_) | (refine gcall_eq (fun _ => rfl) 300 (fun hg => c4) (by rfl) rflsA (by kernel_rfl) ?_) | (refine CallX.intro _ (callOb (c4) (by rfl)) ?_) | (refine CallX.intro _ (callObG (fun hg => c4) rflsA (by rfl)) ?_) | (refine call_eq (fun _ => rfl) 300 (c5) (by rfl) (by kernel_rfl) ?_) | (refine gcall_eq (fun _ => rfl) 300 (fun hg => c5) (by rfl) rflsA (by kernel_rfl) ?_) | (refine CallX.intro _ (callOb (c5) (by rfl)) ?_) | (refine CallX.intro _ (callObG (fun hg => c5) rflsA (by rfl)) ?_) | (refine call_eq (fun _ => rfl) 300 ((show Con Tryd.prog 26 [listsV [], listsV cs] (.bool true) from absurd hg (by decide))) (by rfl) (by kernel_rfl) ?_) | (refine gcall_eq (fun _ => rfl) 300 (fun hg => (show Con Tryd.prog 26 [listsV [], listsV cs] (.bool true) from absurd hg (by decide))) (by rfl) rflsA (by kernel_rfl) ?_) | (refine CallX.intro _ (callOb ((show Con Tryd.prog 26 [listsV [], listsV cs] (.bool true) from absurd hg (by decide))) (by rfl)) ?_) | (refine CallX.intro _ (callObG (fun hg => (show Con Tryd.prog 26 [listsV [], listsV cs] (.bool true) from absurd hg (by decide))) rflsA (by rfl)) ?_) | (refine call_lend (fun _ => rfl) 300 (awake01) holdA (by repeat' (first | exact trivial | exact Le.refl _ | (refine And.intro ?_ ?_))) (by rfl) (by kernel_rfl) ?_) | (refine gcall_lend (fun _ => rfl) 300 (fun hg => awake01) (fun hg => holdA) (fun hg => (by repeat' (first | exact trivial | exact Le.refl _ | exact Le.cnd hg | (refine And.intro ?_ ?_)))) (by rfl) (by kernel_rfl) ?_) | (refine call_lend (fun _ => rfl) 300 (hs) holdA (by repeat' (first | exact trivial | exact Le.refl _ | (refine And.intro ?_ ?_))) (by rfl) (by kernel_rfl) ?_) | (refine gcall_lend (fun _ => rfl) 300 (fun hg => hs) (fun hg => holdA) (fun hg => (by repeat' (first | exact trivial | exact Le.refl _ | exact Le.cnd hg | (refine And.intro ?_ ?_)))) (by rfl) (by kernel_rfl) ?_) | (refine call_lend (fun _ => rfl) 300 (c1) holdA (by repeat' (first | exact trivial | exact Le.refl _ | (refine And.intro ?_ ?_))) (by rfl) (by kernel_rfl) ?_) | (refine gcall_lend (fun _ => rfl) 300 (fun hg => c1) (fun hg => holdA) (fun hg => (by repeat' (first | exact trivial | exact Le.refl _ | exact Le.cnd hg | (refine And.intro ?_ ?_)))) (by rfl) (by kernel_rfl) ?_) | (refine call_lend (fun _ => rfl) 300 (c2) holdA (by repeat' (first | exact trivial | exact Le.refl _ | (refine And.intro ?_ ?_))) (by rfl) (by kernel_rfl) ?_) | (refine gcall_lend (fun _ => rfl) 300 (fun hg => c2) (fun hg => holdA) (fun hg => (by repeat' (first | exact trivial | exact Le.refl _ | exact Le.cnd hg | (refine And.intro ?_ ?_)))) (by rfl) (by kernel_rfl) ?_) | (refine call_lend (fun _ => rfl) 300 (c3) holdA (by repeat' (first | exact trivial | exact Le.refl _ | (refine And.intro ?_ ?_))) (by rfl) (by kernel_rfl) ?_) | (refine gcall_lend (fun _ => rfl) 300 (fun hg => c3) (fun hg => holdA) (fun hg => (by repeat' (first | exact trivial | exact Le.refl _ | exact Le.cnd hg | (refine And.intro ?_ ?_)))) (by rfl) (by kernel_rfl) ?_) | (refine call_lend (fun _ => rfl) 300 (c4) holdA (by repeat' (first | exact trivial | exact Le.refl _ | (refine And.intro ?_ ?_))) (by rfl) (by kernel_rfl) ?_) | (refine gcall_lend (fun _ => rfl) 300 (fun hg => c4) (fun hg => holdA) (fun hg => (by repeat' (first | exact trivial | exact Le.refl _ | exact Le.cnd hg | (refine And.intro ?_ ?_)))) (by rfl) (by kernel_rfl) ?_) | (refine call_lend (fun _ => rfl) 300 (c5) holdA (by repeat' (first | exact trivial | exact Le.refl _ | (refine And.intro ?_ ?_))) (by rfl) (by kernel_rfl) ?_) | (refine gcall_lend (fun _ => rfl) 300 (fun hg => c5) (fun hg => holdA) (fun hg => (by repeat' (first | exact trivial | exact Le.refl _ | exact Le.cnd hg | (refine And.intro ?_ ?_)))) (by rfl) (by kernel_rfl) ?_) | (refine call_lend (fun _ => rfl) 300 ((show Con Tryd.prog 26 [listsV [], listsV cs] (.bool true) from absurd hg (by decide))) holdA (by repeat' (first | exact trivial | exact Le.refl _ | (refine And.intro ?_ ?_))) (by rfl) (by kernel_rfl) ?_) | (refine gcall_lend (fun _ => rfl) 300 (fun hg => (show Con Tryd.prog 26 [listsV [], listsV cs] (.bool true) from absurd hg (by decide))) (fun hg => holdA) (fun hg => (by repeat' (first | exact trivial | exact Le.refl _ | exact Le.cnd hg | (refine And.intro ?_ ?_)))) (by rfl) (by kernel_rfl) ?_) | (refine draw3_x (fun _ => rfl) (by kernel_rfl) 300 ?_) | (refine Br.intro (fun hb => ?_) (fun hb => ?_) <;> (try simp [-List.getD_eq_getElem?_getD] at hb) <;> (try (exfalso; omega))) | (refine Ob.intro ?_ ?_)))
      all_goals exact Le.refl _
    | true =>
      rw [parse_shown hr (by omega) (show_le cs hr (by omega) (fun c hc => (hm c hc).1))] at c5
      have c6 := lists_con01 cs cs (by omega) hm2
      rw [beq_self_eq_true] at c6
      refine con_of_exec (T := tab Tryd.prog) (C := {}) 300 (fun _ => rfl) Tryd.func7 rfl (by kernel_rfl) (by kernel_rfl) (fun c0 rdb => ?_)
      (repeat' ((conv => whnf); first | (refine Ob.intro (OrdG.intro (by kernel_rfl)) ?_) | (refine Ob.auto ?_) | (refine call_eq (fun _ => rfl) 300 (awake01) (by rfl) (by kernel_rfl) ?_) | (refine gcall_eq (fun _ => rfl) 300 (fun hg => awake01) (by rfl) rflsA (by kernel_rfl) ?_) | (refine CallX.intro _ (callOb (awake01) (by rfl)) ?_) | (refine CallX.intro _ (callObG (fun hg => awake01) rflsA (by rfl)) ?_) | (refine call_eq (fun _ => rfl) 300 (hs) (by rfl) (by kernel_rfl) ?_) | (refine gcall_eq (fun _ => rfl) 300 (fun hg => hs) (by rfl) rflsA (by kernel_rfl) ?_) | (refine CallX.intro _ (callOb (hs) (by rfl)) ?_) | (refine CallX.intro _ (callObG (fun hg => hs) rflsA (by rfl)) ?_) | (refine call_eq (fun _ => rfl) 300 (c1) (by rfl) (by kernel_rfl) ?_) | (refine gcall_eq (fun _ => rfl) 300 (fun hg => c1) (by rfl) rflsA (by kernel_rfl) ?_) | (refine CallX.intro _ (callOb (c1) (by rfl)) ?_) | (refine CallX.intro _ (callObG (fun hg => c1) rflsA (by rfl)) ?_) | (refine call_eq (fun _ => rfl) 300 (c2) (by rfl) (by kernel_rfl) ?_) | (refine gcall_eq (fun _ => rfl) 300 (fun hg => c2) (by rfl) rflsA (by kernel_rfl) ?_) | (refine CallX.intro _ (callOb (c2) (by rfl)) ?_) | (refine CallX.intro _ (callObG (fun hg => c2) rflsA (by rfl)) ?_) | (refine call_eq (fun _ => rfl) 300 (c3) (by rfl) (by kernel_rfl) ?_) | (refine gcall_eq (fun _ => rfl) 300 (fun hg => c3) (by rfl) rflsA (by kernel_rfl) ?_) | (refine CallX.intro _ (callOb (c3) (by rfl)) ?_) | (refine CallX.intro _ (callObG (fun hg => c3) rflsA (by rfl)) ?_) | (refine call_eq (fun _ => rfl) 300 (c4) (by rfl) (by kernel_rfl) ?_) | (refine gcall_eq (fun _ => rfl) 300 (fun hg => c4) (by rfl) rflsA (by kernel_rfl) ?_) | (refine CallX.intro _ (callOb (c4) (by rfl)) ?_) | (refine CallX.intro _ (callObG (fun hg => c4) rflsA (by rfl)) ?_) | (refine call_eq (fun _ => rfl) 300 (c5) (by rfl) (by kernel_rfl) ?_) | (refine gcall_eq (fun _ => rfl) 300 (fun hg => c5) (by rfl) rflsA (by kernel_rfl) ?_) | (refine CallX.intro _ (callOb (c5) (by rfl)) ?_) | (refine CallX.intro _ (callObG (fun hg => c5) rflsA (by rfl)) ?_) | (refine call_eq (fun _ => rfl) 300 (c6) (by rfl) (by kernel_rfl) ?_) | (refine gcall_eq (fun _ => rfl) 300 (fun hg => c6) (by rfl) rflsA (by kernel_rfl) ?_) | (refine CallX.intro _ (callOb (c6) (by rfl)) ?_) | (refine CallX.intro _ (callObG (fun hg => c6) rflsA (by rfl)) ?_) | (refine call_lend (fun _ => rfl) 300 (awake01) holdA (by repeat' (first | exact trivial | exact Le.refl _ | (refine And.intro ?_ ?_))) (by rfl) (by kernel_rfl) ?_) | (refine gcall_lend (fun _ => rfl) 300 (fun hg => awake01) (fun hg => holdA) (fun hg => (by repeat' (first | exact trivial | exact Le.refl _ | exact Le.cnd hg | (refine And.intro ?_ ?_)))) (by rfl) (by kernel_rfl) ?_) | (refine call_lend (fun _ => rfl) 300 (hs) holdA (by repeat' (first | exact trivial | exact Le.refl _ | (refine And.intro ?_ ?_))) (by rfl) (by kernel_rfl) ?_) | (refine gcall_lend (fun _ => rfl) 300 (fun hg => hs) (fun hg => holdA) (fun hg => (by repeat' (first | exact trivial | exact Le.refl _ | exact Le.cnd hg | (refine And.intro ?_ ?_)))) (by rfl) (by kernel_rfl) ?_) | (refine call_lend (fun _ => rfl) 300 (c1) holdA (by repeat' (first | exact trivial | exact Le.refl _ | (refine And.intro ?_ ?_))) (by rfl) (by kernel_rfl) ?_) | (refine gcall_lend (fun _ => rfl) 300 (fun hg => c1) (fun hg => holdA) (fun hg => (by repeat' (first | exact trivial | exact Le.refl _ | exact Le.cnd hg | (refine And.intro ?_ ?_)))) (by rfl) (by kernel_rfl) ?_) | (refine call_lend (fun _ => rfl) 300 (c2) holdA (by repeat' (first | exact trivial | exact Le.refl _ | (refine And.intro ?_ ?_))) (by rfl) (by kernel_rfl) ?_) | (refine gcall_lend (fun _ => rfl) 300 (fun hg => c2) (fun hg => holdA) (fun hg => (by repeat' (first | exact trivial | exact Le.refl _ | exact Le.cnd hg | (refine And.intro ?_ ?_)))) (by rfl) (by kernel_rfl) ?_) | (refine call_lend (fun _ => rfl) 300 (c3) holdA (by repeat' (first | exact trivial | exact Le.refl _ | (refine And.intro ?_ ?_))) (by rfl) (by kernel_rfl) ?_) | (refine gcall_lend (fun _ => rfl) 300 (fun hg => c3) (fun hg => holdA) (fun hg => (by repeat' (first | exact trivial | exact Le.refl _ | exact Le.cnd hg | (refine And.intro ?_ ?_)))) (by rfl) (by kernel_rfl) ?_) | (refine call_lend (fun _ => rfl) 300 (c4) holdA (by repeat' (first | exact trivial | exact Le.refl _ | (refine And.intro ?_ ?_))) (by rfl) (by kernel_rfl) ?_) | (refine gcall_lend (fun _ => rfl) 300 (fun hg => c4) (fun hg => holdA) (fun hg => (by repeat' (first | exact trivial | exact Le.refl _ | exact Le.cnd hg | (refine And.intro ?_ ?_)))) (by rfl) (by kernel_rfl) ?_) | (refine call_lend (fun _ => rfl) 300 (c5) holdA (by repeat' (first | exact trivial | exact Le.refl _ | (refine And.intro ?_ ?_))) (by rfl) (by kernel_rfl) ?_) | (refine gcall_lend (fun _ => rfl) 300 (fun hg => c5) (fun hg => holdA) (fun hg => (by repeat' (first | exact trivial | exact Le.refl _ | exact Le.cnd hg | (refine And.intro ?_ ?_)))) (by rfl) (by kernel_rfl) ?_) | (refine call_lend (fun _ => rfl) 300 (c6) holdA (by repeat' (first | exact trivial | exact Le.refl _ | (refine And.intro ?_ ?_))) (by rfl) (by kernel_rfl) ?_) | (refine gcall_lend (fun _ => rfl) 300 (fun hg => c6) (fun hg => holdA) (fun hg => (by repeat' (first | exact trivial | exact Le.refl _ | exact Le.cnd hg | (refine And.intro ?_ ?_)))) (by rfl) (by kernel_rfl) ?_) | (refine draw3_x (fun _ => rfl) (by kernel_rfl) 300 ?_) | (refine Br.intro (fun hb => ?_) (fun hb => ?_) <;> (try simp [-List.getD_eq_getElem?_getD] at hb) <;> (try (exfalso; omega))) | (refine Ob.intro ?_ ?_)))
      exact Le.of_eq (congrArg AV.bool (Bool.or_true _))

end Go.Proofs.YtcfllgdfhfcicaaDoor
