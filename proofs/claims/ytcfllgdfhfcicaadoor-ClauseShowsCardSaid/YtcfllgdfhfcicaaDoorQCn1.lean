/- Contracts: clauses, literals: the program's and the document's. -/
import Derived.Test.YtcfllgdfhfcicaaDoorQCnR
import Derived.Test.YtcfllgdfhfcicaaDoorQStP
import Derived.Test.YtcfllgdfhfcicaaDoorQ3
import Derived.Test.YtcfllgdfhfcicaaDoorChecked
set_option linter.unusedSimpArgs false
set_option linter.unusedVariables false
namespace Go.Proofs.YtcfllgdfhfcicaaDoor
open Go Go.Sx Go.RowKit Go.St Go.Cl
set_option maxRecDepth 100000
set_option maxHeartbeats 4000000

def listsV (cs : List (List Int)) : AV := slcL (fun l => [ints l]) [] 1 cs

theorem all_any {α : Type} (q : α → Bool) (l : List α) : (l.all q) = !(l.any fun x => !q x) := by
  induction l with
  | nil => rfl
  | cons x l ih => rw [List.all_cons, List.any_cons, ih, Bool.not_or, Bool.not_not]

theorem idx_any' {α : Type} (q : α → Bool) (l : List α) : decide (0 ≤ Go.St.idx q l) = l.any q := by
  unfold Go.St.idx
  cases h : l.findIdx? q with
  | none =>
    rw [List.findIdx?_eq_none_iff] at h
    have : l.any q = false := by rw [Bool.eq_false_iff]; intro h'; rw [List.any_eq_true] at h'; obtain ⟨x, hx, hq⟩ := h'; rw [h x hx] at hq; cases hq
    rw [this]; rfl
  | some i =>
    rw [List.findIdx?_eq_some_iff_getElem] at h
    obtain ⟨h1, h2, _⟩ := h
    have : l.any q = true := by rw [List.any_eq_true]; exact ⟨_, List.getElem_mem h1, h2⟩
    rw [this]; exact decide_eq_true (by simp)

theorem literal_con (l : Int) : Con Tryd.prog 37 [iv l] (.bool (litB l)) := by
  refine con_of_exec (T := tab Tryd.prog) (C := {}) 300 (fun _ => rfl) Tryd.func37 rfl (by kernel_rfl) (by kernel_rfl) (fun c0 rdb => ?_)
  (repeat' ((conv => whnf); first | (refine AltG.none (by kernel_rfl) (EndG.go ?_)) | (refine Ob.intro (OrdG.intro (by kernel_rfl)) ?_) | (refine Ob.auto ?_) | (refine draw3n (fun _ => rfl) (by kernel_rfl) 300 (by rfl) ?_) | (refine Br.intro (fun hb => ?_) (fun hb => ?_) <;> (try simp [-List.getD_eq_getElem?_getD] at hb) <;> (try (exfalso; omega))) | (refine Ob.intro ?_ ?_)))
  exact Le.refl _

theorem variable_con (l : Int) (h : litB l = true) : Con Tryd.prog 32 [iv l] (iv (absI l)) := by
  have h := (lit_iff l).1 h
  refine con_of_exec (T := tab Tryd.prog) (C := {}) 300 (fun _ => rfl) Tryd.func32 rfl (by kernel_rfl) (by kernel_rfl) (fun c0 rdb => ?_)
  (repeat' ((conv => whnf); first | (refine AltG.none (by kernel_rfl) (EndG.go ?_)) | (refine Ob.intro (OrdG.intro (by kernel_rfl)) ?_) | (refine Ob.auto ?_) | (refine Ob.intro (by (exact ⟨by omega, by omega⟩)) ?_) | (refine draw3n (fun _ => rfl) (by kernel_rfl) 300 (by rfl) ?_) | (refine Br.intro (fun hb => ?_) (fun hb => ?_) <;> (try simp [-List.getD_eq_getElem?_getD] at hb) <;> (try (exfalso; omega))) | (refine Ob.intro ?_ ?_)))
  all_goals (refine Le.of_eq (congrArg (AV.int _) ?_); unfold absI; omega)

theorem right1_con (l : Int) : Con Tryd.prog 36 [iv l] (.bool (!litB l)) := by
  refine con_of_exec (T := tab Tryd.prog) (C := {}) 300 (fun _ => rfl) Tryd.func36 rfl (by kernel_rfl) (by kernel_rfl) (fun c0 rdb => ?_)
  (repeat' ((conv => whnf); first | (refine AltG.none (by kernel_rfl) (EndG.go ?_)) | (refine Ob.intro (OrdG.intro (by kernel_rfl)) ?_) | (refine Ob.auto ?_) | (refine call_eq (fun _ => rfl) 300 (literal_con l) (by rfl) (by kernel_rfl) ?_) | (refine gcall_eq (fun _ => rfl) 300 (fun hg => literal_con l) (by rfl) rflsA (by kernel_rfl) ?_) | (refine CallY.con (literal_con l) (by rfl) leA ?_) | (refine CallZ.con (fun hg => literal_con l) rflsA (by rfl) ?_) | (refine call_lend (fun _ => rfl) 300 (literal_con l) holdA (by repeat' (first | exact trivial | exact Le.refl _ | (refine And.intro ?_ ?_))) (by rfl) (by kernel_rfl) ?_) | (refine gcall_lend (fun _ => rfl) 300 (fun hg => literal_con l) (fun hg => holdA) (fun hg => (by repeat' (first | exact trivial | exact Le.refl _ | exact Le.cnd hg | (refine And.intro ?_ ?_)))) (by rfl) (by kernel_rfl) ?_) | (refine draw3n (fun _ => rfl) (by kernel_rfl) 300 (by rfl) ?_) | (refine Br.intro (fun hb => ?_) (fun hb => ?_) <;> (try simp [-List.getD_eq_getElem?_getD] at hb) <;> (try (exfalso; omega))) | (refine Ob.intro ?_ ?_)))
  exact Le.refl _

theorem holds1_con (m : List Bool) (l : Int) : Con Tryd.prog 38 [iv l, .rptr [bools m]] (.bool (litB l && isTrue m l)) := by
  refine con_of_exec (T := tab Tryd.prog) (C := {}) 300 (fun _ => rfl) Tryd.func38 rfl (by kernel_rfl) (by kernel_rfl) (fun c0 rdb => ?_)
  (repeat' ((conv => whnf); first | (refine AltG.none (by kernel_rfl) (EndG.go ?_)) | (refine Ob.intro (OrdG.intro (by kernel_rfl)) ?_) | (refine Ob.auto ?_) | (refine call_eq (fun _ => rfl) 300 (literal_con l) (by rfl) (by kernel_rfl) ?_) | (refine gcall_eq (fun _ => rfl) 300 (fun hg => literal_con l) (by rfl) rflsA (by kernel_rfl) ?_) | (refine CallY.con (literal_con l) (by rfl) leA ?_) | (refine CallZ.con (fun hg => literal_con l) rflsA (by rfl) ?_) | (refine call_lend (fun _ => rfl) 300 (literal_con l) holdA (by repeat' (first | exact trivial | exact Le.refl _ | (refine And.intro ?_ ?_))) (by rfl) (by kernel_rfl) ?_) | (refine gcall_lend (fun _ => rfl) 300 (fun hg => literal_con l) (fun hg => holdA) (fun hg => (by repeat' (first | exact trivial | exact Le.refl _ | exact Le.cnd hg | (refine And.intro ?_ ?_)))) (by rfl) (by kernel_rfl) ?_) | (refine draw3n (fun _ => rfl) (by kernel_rfl) 300 (by rfl) ?_) | (refine Br.intro (fun hb => ?_) (fun hb => ?_) <;> (try simp [-List.getD_eq_getElem?_getD] at hb) <;> (try (exfalso; omega))) | (refine Ob.intro ?_ ?_)))
  · rw [hb]; exact Le.refl _
  · have hl := (lit_iff l).1 hb
    have hv := variable_con l hb
    have ha : 1 ≤ absI l ∧ absI l ≤ 100000 := by unfold absI; omega
    (repeat' ((conv => whnf); first | (refine AltG.none (by kernel_rfl) (EndG.go ?_)) | (refine Ob.intro (OrdG.intro (by kernel_rfl)) ?_) | (refine Ob.auto ?_) | (refine Ob.intro (by (first | exact ⟨by omega, by omega⟩ | exact fun h => ⟨h, by show (-9223372036854775808 : Int) ≤ _; omega, by show _ ≤ (9223372036854775807 : Int); omega⟩)) ?_) | (refine call_eq (fun _ => rfl) 300 (hv) (by rfl) (by kernel_rfl) ?_) | (refine gcall_eq (fun _ => rfl) 300 (fun hg => hv) (by rfl) rflsA (by kernel_rfl) ?_) | (refine CallY.con (hv) (by rfl) leA ?_) | (refine CallZ.con (fun hg => hv) rflsA (by rfl) ?_) | (refine call_lend (fun _ => rfl) 300 (hv) holdA (by repeat' (first | exact trivial | exact Le.refl _ | (refine And.intro ?_ ?_))) (by rfl) (by kernel_rfl) ?_) | (refine gcall_lend (fun _ => rfl) 300 (fun hg => hv) (fun hg => holdA) (fun hg => (by repeat' (first | exact trivial | exact Le.refl _ | exact Le.cnd hg | (refine And.intro ?_ ?_)))) (by rfl) (by kernel_rfl) ?_) | (refine draw3n (fun _ => rfl) (by kernel_rfl) 300 (by rfl) ?_) | (refine Br.intro (fun hb => ?_) (fun hb => ?_) <;> (try simp [-List.getD_eq_getElem?_getD] at hb) <;> (try (exfalso; omega))) | (refine Ob.intro ?_ ?_)))
    rw [hb]; exact Le.refl _

end Go.Proofs.YtcfllgdfhfcicaaDoor
