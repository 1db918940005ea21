/- Contracts: a tree's model; false: it has none, or is too great. -/
import Derived.Test.YtdoaagphhjggbaaQMk6
import Derived.Test.YtdoaagphhjggbaaQTr4
namespace Go.Proofs.Ytdoaagphhjggbaa
open Go Go.Sx Go.RowKit Go.St
set_option maxRecDepth 100000
set_option maxHeartbeats 8000000

def mdZ : Md := { tree := [] }

theorem mdZ_le : Le (AV.agg [AV.nils, iv 0, AV.nils, AV.nils, AV.nils, AV.nils, AV.bool false]) mdZ.av :=
  Le.agg ⟨Le.nils _ _, Le.refl _, Le.nils _ _, Le.nils _ _, Le.nils _ _, Le.nils _ _, Le.refl _, trivial⟩

theorem make_no (l : List Nd) (ht : Tree l) (hc : (check12 l).1 ≠ 0) : Con Try.prog 16 [treeV l] (.tup [mdZ.av, .bool false]) := by
  refine con_of_exec (T := tab Try.prog) (C := {}) 2000 (fun _ => rfl) Try.func16 rfl (by kernel_rfl) (by kernel_rfl) (fun c0 rdb => ?_)
  (repeat' ((conv => whnf); first | (refine AltG.none (by kernel_rfl) (EndG.go ?_)) | (refine Ob.intro (OrdG.intro (by kernel_rfl)) ?_) | (refine Ob.auto ?_) | (refine Ob.intro (by (exact ⟨by omega, by omega⟩)) ?_) | (refine call_eq (fun _ => rfl) 2000 (check12_con l ht) (by rfl) (by kernel_rfl) ?_) | (refine gcall_eq (fun _ => rfl) 2000 (fun hg => check12_con l ht) (by rfl) rflsA (by kernel_rfl) ?_) | (refine CallY.con (check12_con l ht) (by rfl) leA ?_) | (refine CallZ.con (fun hg => check12_con l ht) rflsA (by rfl) ?_) | (refine call_lend (fun _ => rfl) 2000 (check12_con l ht) holdA (by repeat' (first | exact trivial | exact Le.refl _ | (refine And.intro ?_ ?_))) (by rfl) (by kernel_rfl) ?_) | (refine gcall_lend (fun _ => rfl) 2000 (fun hg => check12_con l ht) (fun hg => holdA) (fun hg => (by repeat' (first | exact trivial | exact Le.refl _ | exact Le.cnd hg | (refine And.intro ?_ ?_)))) (by rfl) (by kernel_rfl) ?_) | (refine draw3n (fun _ => rfl) (by kernel_rfl) 2000 (by rfl) ?_) | (refine Br.intro (fun hb => ?_) (fun hb => ?_) <;> (try simp [-List.getD_eq_getElem?_getD] at hb) <;> (try (exfalso; omega))) | (refine Ob.intro ?_ ?_)))
  exact Le.tup ⟨mdZ_le, Le.refl _, trivial⟩

def madeF (l : List Nd) : Md × Bool := if (smallF l l.length ≤ 1500 ∧ rightB l = true) ∧ (check12 l).1 = 0 then (makeF l, true) else (mdZ, false)

theorem made_con (l : List Nd) (hl : l.length ≤ 9223372036854775807) (hz : ∀ n ∈ l, NdSz n) : Con Try.prog 9 [treeV l] (.tup [(madeF l).1.av, .bool (madeF l).2]) := by
  have hm : Tree l → Con Try.prog 16 [treeV l] (.tup [(if (check12 l).1 = 0 then makeF l else mdZ).av, .bool (decide ((check12 l).1 = 0))]) := fun ht => by
    by_cases h : (check12 l).1 = 0
    · rw [if_pos h, decide_eq_true h]; exact make_con l ht h
    · rw [if_neg h, decide_eq_false h]; exact make_no l ht h
  refine con_of_exec (T := tab Try.prog) (C := {}) 300 (fun _ => rfl) Try.func9 rfl (by kernel_rfl) (by kernel_rfl) (fun c0 rdb => ?_)
  (repeat' ((conv => whnf); first | (refine AltG.none (by kernel_rfl) (EndG.go ?_)) | (refine Ob.intro (OrdG.intro (by kernel_rfl)) ?_) | (refine Ob.auto ?_) | (refine Ob.intro (by (exact ⟨by omega, by omega⟩)) ?_) | (refine call_eq (fun _ => rfl) 300 (small_con l hl) (by rfl) (by kernel_rfl) ?_) | (refine gcall_eq (fun _ => rfl) 300 (fun hg => small_con l hl) (by rfl) rflsA (by kernel_rfl) ?_) | (refine CallY.con (small_con l hl) (by rfl) leA ?_) | (refine CallZ.con (fun hg => small_con l hl) rflsA (by rfl) ?_) | (refine call_eq (fun _ => rfl) 300 (right_con l hl hz) (by rfl) (by kernel_rfl) ?_) | (refine gcall_eq (fun _ => rfl) 300 (fun hg => right_con l hl hz) (by rfl) rflsA (by kernel_rfl) ?_) | (refine CallY.con (right_con l hl hz) (by rfl) leA ?_) | (refine CallZ.con (fun hg => right_con l hl hz) rflsA (by rfl) ?_) | (refine call_lend (fun _ => rfl) 300 (small_con l hl) holdA (by repeat' (first | exact trivial | exact Le.refl _ | (refine And.intro ?_ ?_))) (by rfl) (by kernel_rfl) ?_) | (refine gcall_lend (fun _ => rfl) 300 (fun hg => small_con l hl) (fun hg => holdA) (fun hg => (by repeat' (first | exact trivial | exact Le.refl _ | exact Le.cnd hg | (refine And.intro ?_ ?_)))) (by rfl) (by kernel_rfl) ?_) | (refine call_lend (fun _ => rfl) 300 (right_con l hl hz) holdA (by repeat' (first | exact trivial | exact Le.refl _ | (refine And.intro ?_ ?_))) (by rfl) (by kernel_rfl) ?_) | (refine gcall_lend (fun _ => rfl) 300 (fun hg => right_con l hl hz) (fun hg => holdA) (fun hg => (by repeat' (first | exact trivial | exact Le.refl _ | exact Le.cnd hg | (refine And.intro ?_ ?_)))) (by rfl) (by kernel_rfl) ?_) | (refine draw3n (fun _ => rfl) (by kernel_rfl) 300 (by rfl) ?_) | (refine Br.intro (fun hb => ?_) (fun hb => ?_) <;> (try simp [-List.getD_eq_getElem?_getD] at hb) <;> (try (exfalso; omega))) | (refine Ob.intro ?_ ?_)))
  · have e : madeF l = (mdZ, false) := if_neg fun h => by
      rcases hb with hb | hb
      · omega
      · rw [hb] at h; simp at h
    rw [e]
    exact Le.tup ⟨mdZ_le, Le.refl _, trivial⟩
  · ((conv => whnf); refine call_rule (fun _ => rfl) 300 (hm (tree_of_right hb.2)) (by rfl) leA (by kernel_rfl) ?_)
    (repeat' ((conv => whnf); first | (refine AltG.none (by kernel_rfl) (EndG.go ?_)) | (refine Ob.intro (OrdG.intro (by kernel_rfl)) ?_) | (refine Ob.auto ?_) | (refine draw3n (fun _ => rfl) (by kernel_rfl) 300 (by rfl) ?_) | (refine Br.intro (fun hb => ?_) (fun hb => ?_) <;> (try simp [-List.getD_eq_getElem?_getD] at hb) <;> (try (exfalso; omega))) | (refine Ob.intro ?_ ?_)))
    have e : madeF l = (if (check12 l).1 = 0 then makeF l else mdZ, decide ((check12 l).1 = 0)) := by
      unfold madeF
      by_cases h : (check12 l).1 = 0
      · rw [if_pos ⟨hb, h⟩, if_pos h, decide_eq_true h]
      · rw [if_neg (fun g => h g.2), if_neg h, decide_eq_false h]
    rw [e]
    exact Le.refl _

theorem made_ok {l : List Nd} (h : (madeF l).2 = true) : ModOk (madeF l).1 ∧ (madeF l).1 = makeF l ∧ Tree l ∧ (check12 l).1 = 0 := by
  unfold madeF at h ⊢
  split
  · rename_i e
    exact ⟨modOk_make (tree_of_right e.1.2) e.2, rfl, tree_of_right e.1.2, e.2⟩
  · rename_i e
    rw [if_neg e] at h; cases h

end Go.Proofs.Ytdoaagphhjggbaa
