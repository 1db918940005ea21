/- The law StateValues: what any expression comes to. -/
import Derived.Test.YtdoaagphhjggbaaQMk7
import Derived.Test.YtdoaagphhjggbaaQAw14
import Derived.Test.YtdoaagphhjggbaaQStQ
import Derived.Test.YtdoaagphhjggbaaQSt4
import Derived.Test.YtdoaagphhjggbaaQSt8
namespace Go.Proofs.Ytdoaagphhjggbaa
open Go Go.Sx Go.RowKit Go.St
set_option maxRecDepth 100000
set_option maxHeartbeats 8000000

theorem made_tree {l : List Nd} (h : (madeF l).2 = true) : (madeF l).1.tree = l := by
  obtain ⟨_, h1, ht, hc⟩ := made_ok h
  rw [h1]
  exact (model0_inv ht (check_ok hc).2).tree.1

theorem stateValues_con (l : List Nd) (hl : l.length ≤ 9223372036854775807) (hz : ∀ n ∈ l, NdSz n) (raw : List Int) (p : Int) : Con Try.prog 3 [treeV l, ints raw, iv p] (.bool true) := by
  refine con_of_exec (T := tab Try.prog) (C := {}) 300 (fun _ => rfl) Try.func3 rfl (by kernel_rfl) (by kernel_rfl) (fun c0 rdb => ?_)
  (repeat' ((conv => whnf); first | (refine AltG.none (by kernel_rfl) (EndG.go ?_)) | (refine Ob.intro (OrdG.intro (by kernel_rfl)) ?_) | (refine Ob.auto ?_) | (refine Ob.intro (by (exact ⟨by omega, by omega⟩)) ?_) | (refine call_eq (fun _ => rfl) 300 (awake14) (by rfl) (by kernel_rfl) ?_) | (refine gcall_eq (fun _ => rfl) 300 (fun hg => awake14) (by rfl) rflsA (by kernel_rfl) ?_) | (refine CallY.con (awake14) (by rfl) leA ?_) | (refine CallZ.con (fun hg => awake14) rflsA (by rfl) ?_) | (refine call_eq (fun _ => rfl) 300 (made_con l hl hz) (by rfl) (by kernel_rfl) ?_) | (refine gcall_eq (fun _ => rfl) 300 (fun hg => made_con l hl hz) (by rfl) rflsA (by kernel_rfl) ?_) | (refine CallY.con (made_con l hl hz) (by rfl) leA ?_) | (refine CallZ.con (fun hg => made_con l hl hz) rflsA (by rfl) ?_) | (refine call_lend (fun _ => rfl) 300 (awake14) holdA (by repeat' (first | exact trivial | exact Le.refl _ | (refine And.intro ?_ ?_))) (by rfl) (by kernel_rfl) ?_) | (refine gcall_lend (fun _ => rfl) 300 (fun hg => awake14) (fun hg => holdA) (fun hg => (by repeat' (first | exact trivial | exact Le.refl _ | exact Le.cnd hg | (refine And.intro ?_ ?_)))) (by rfl) (by kernel_rfl) ?_) | (refine call_lend (fun _ => rfl) 300 (made_con l hl hz) holdA (by repeat' (first | exact trivial | exact Le.refl _ | (refine And.intro ?_ ?_))) (by rfl) (by kernel_rfl) ?_) | (refine gcall_lend (fun _ => rfl) 300 (fun hg => made_con l hl hz) (fun hg => holdA) (fun hg => (by repeat' (first | exact trivial | exact Le.refl _ | exact Le.cnd hg | (refine And.intro ?_ ?_)))) (by rfl) (by kernel_rfl) ?_) | (refine draw3n (fun _ => rfl) (by kernel_rfl) 300 (by rfl) ?_) | (refine Br.intro (fun hb => ?_) (fun hb => ?_) <;> (try simp [-List.getD_eq_getElem?_getD] at hb) <;> (try (exfalso; omega))) | (refine Ob.intro ?_ ?_)))
  · exact Le.refl _
  · exact Le.refl _
  have hok := (made_ok hb).1
  have htr := made_tree hb
  have hlen := (made_ok hb).2.2.1.len
  clear hb
  generalize (madeF l).1 = M at hok htr ⊢
  have hm := hok.ok
  have hf := held_fits hm raw
  have hs := held_ssz hm raw
  have hso := sok_of_fits hm hf
  ((conv => whnf); refine call_rule (fun _ => rfl) 300 (held_con M hm raw) (by rfl) leA (by kernel_rfl) ?_)
  (repeat' ((conv => whnf); first | (refine AltG.none (by kernel_rfl) (EndG.go ?_)) | (refine Ob.intro (OrdG.intro (by kernel_rfl)) ?_) | (refine Ob.auto ?_) | (refine Ob.intro (by (exact ⟨by omega, by omega⟩)) ?_) | (refine draw3n (fun _ => rfl) (by kernel_rfl) 300 (by rfl) ?_) | (refine Br.intro (fun hb => ?_) (fun hb => ?_) <;> (try simp [-List.getD_eq_getElem?_getD] at hb) <;> (try (exfalso; omega))) | (refine Ob.intro ?_ ?_)))
  have hin : ∀ g : Int, 0 ≤ g ∧ g < l.length → sval M p (heldF M raw) g = valN M p (heldF M raw) M.tree.length g := fun g hg => if_pos ⟨hg.1, by rw [htr]; exact hg.2, hf⟩
  have hout : ∀ g : Int, ¬ (0 ≤ g ∧ g < l.length) → sval M p (heldF M raw) g = (0, false) := fun g hg => if_neg fun h => hg ⟨h.1, by rw [← htr]; exact h.2.1⟩
  ((conv => whnf); refine loop_auto (fun _ => rfl) 300 1 (fun g : Int => [(10, iv g), (6, .bool false)]) (fun _ => []) (fun g => -1 ≤ g ∧ g ≤ l.length + 1) (fun g => ((l.length : Int) + 1 - g).toNat) ((-1 : Int)) (⟨by omega, by omega⟩) subtA trivial (fun _ => rfl) (by kernel_rfl) ?_; (conv => whnf))
  intro g hg
  (repeat' ((conv => whnf); first | (refine AltG.none (by kernel_rfl) (EndG.go ?_)) | (refine Ob.intro (OrdG.intro (by kernel_rfl)) ?_) | (refine Ob.auto ?_) | (refine Ob.intro (by (exact ⟨by omega, by omega⟩)) ?_) | (refine call_eq (fun _ => rfl) 300 (svalue_con M hm p (heldF M raw) hs g) (by rfl) (by kernel_rfl) ?_) | (refine gcall_eq (fun _ => rfl) 300 (fun hg => svalue_con M hm p (heldF M raw) hs g) (by rfl) rflsA (by kernel_rfl) ?_) | (refine CallY.con (svalue_con M hm p (heldF M raw) hs g) (by rfl) leA ?_) | (refine CallZ.con (fun hg => svalue_con M hm p (heldF M raw) hs g) rflsA (by rfl) ?_) | (refine call_lend (fun _ => rfl) 300 (svalue_con M hm p (heldF M raw) hs g) holdA (by repeat' (first | exact trivial | exact Le.refl _ | (refine And.intro ?_ ?_))) (by rfl) (by kernel_rfl) ?_) | (refine gcall_lend (fun _ => rfl) 300 (fun hg => svalue_con M hm p (heldF M raw) hs g) (fun hg => holdA) (fun hg => (by repeat' (first | exact trivial | exact Le.refl _ | exact Le.cnd hg | (refine And.intro ?_ ?_)))) (by rfl) (by kernel_rfl) ?_) | (refine draw3n (fun _ => rfl) (by kernel_rfl) 300 (by rfl) ?_) | (refine Br.intro (fun hb => ?_) (fun hb => ?_) <;> (try simp [-List.getD_eq_getElem?_getD] at hb) <;> (try (exfalso; omega))) | (refine Ob.intro ?_ ?_)))
  · ((conv => whnf); refine call_rule (fun _ => rfl) 300 (rvalue_con M hm p (heldF M raw) hso M.tree.length g hb.1 (by rw [htr]; exact hb.2) (Nat.sub_le _ _)) (by rfl) leA (by kernel_rfl) ?_)
    have hv := hin g hb
    (repeat' ((conv => whnf); first | (refine AltG.none (by kernel_rfl) (EndG.go ?_)) | (refine Ob.intro (OrdG.intro (by kernel_rfl)) ?_) | (refine Ob.auto ?_) | (refine Ob.intro (by (exact ⟨by omega, by omega⟩)) ?_) | (refine call_eq (fun _ => rfl) 300 (svalue_con M hm p (heldF M raw) hs g) (by rfl) (by kernel_rfl) ?_) | (refine gcall_eq (fun _ => rfl) 300 (fun hg => svalue_con M hm p (heldF M raw) hs g) (by rfl) rflsA (by kernel_rfl) ?_) | (refine CallY.con (svalue_con M hm p (heldF M raw) hs g) (by rfl) leA ?_) | (refine CallZ.con (fun hg => svalue_con M hm p (heldF M raw) hs g) rflsA (by rfl) ?_) | (refine call_lend (fun _ => rfl) 300 (svalue_con M hm p (heldF M raw) hs g) holdA (by repeat' (first | exact trivial | exact Le.refl _ | (refine And.intro ?_ ?_))) (by rfl) (by kernel_rfl) ?_) | (refine gcall_lend (fun _ => rfl) 300 (fun hg => svalue_con M hm p (heldF M raw) hs g) (fun hg => holdA) (fun hg => (by repeat' (first | exact trivial | exact Le.refl _ | exact Le.cnd hg | (refine And.intro ?_ ?_)))) (by rfl) (by kernel_rfl) ?_) | (refine draw3n (fun _ => rfl) (by kernel_rfl) 300 (by rfl) ?_) | (refine Br.intro (fun hb => ?_) (fun hb => ?_) <;> (try simp [-List.getD_eq_getElem?_getD] at hb) <;> (try (exfalso; omega))) | (refine Ob.intro ?_ ?_)))
    · exfalso
      rcases hb with hb | hb
      · exact hb (by rw [hv])
      · exact hb (by rw [hv])
    · ((conv => whnf); refine ⟨g + 1, ⟨by omega, by omega⟩, ⟨subtA, subtA⟩, ⟨subtA, subtA⟩, ?_⟩; (first | omega | (dsimp only; omega) | skip))
  · exfalso
    rw [hout g (by omega)] at hb
    simp at hb
  · ((conv => whnf); refine ⟨g + 1, ⟨by omega, by omega⟩, ⟨subtA, subtA⟩, ⟨subtA, subtA⟩, ?_⟩; (first | omega | (dsimp only; omega) | skip))
  · (repeat' ((conv => whnf); first | (refine AltG.none (by kernel_rfl) (EndG.go ?_)) | (refine Ob.intro (OrdG.intro (by kernel_rfl)) ?_) | (refine Ob.auto ?_) | (refine call_eq (fun _ => rfl) 300 (ssafe_con M hm (heldF M raw) hs) (by rfl) (by kernel_rfl) ?_) | (refine gcall_eq (fun _ => rfl) 300 (fun hg => ssafe_con M hm (heldF M raw) hs) (by rfl) rflsA (by kernel_rfl) ?_) | (refine CallY.con (ssafe_con M hm (heldF M raw) hs) (by rfl) leA ?_) | (refine CallZ.con (fun hg => ssafe_con M hm (heldF M raw) hs) rflsA (by rfl) ?_) | (refine call_eq (fun _ => rfl) 300 (rsafe_con M hm (heldF M raw) hso) (by rfl) (by kernel_rfl) ?_) | (refine gcall_eq (fun _ => rfl) 300 (fun hg => rsafe_con M hm (heldF M raw) hso) (by rfl) rflsA (by kernel_rfl) ?_) | (refine CallY.con (rsafe_con M hm (heldF M raw) hso) (by rfl) leA ?_) | (refine CallZ.con (fun hg => rsafe_con M hm (heldF M raw) hso) rflsA (by rfl) ?_) | (refine call_lend (fun _ => rfl) 300 (ssafe_con M hm (heldF M raw) hs) holdA (by repeat' (first | exact trivial | exact Le.refl _ | (refine And.intro ?_ ?_))) (by rfl) (by kernel_rfl) ?_) | (refine gcall_lend (fun _ => rfl) 300 (fun hg => ssafe_con M hm (heldF M raw) hs) (fun hg => holdA) (fun hg => (by repeat' (first | exact trivial | exact Le.refl _ | exact Le.cnd hg | (refine And.intro ?_ ?_)))) (by rfl) (by kernel_rfl) ?_) | (refine call_lend (fun _ => rfl) 300 (rsafe_con M hm (heldF M raw) hso) holdA (by repeat' (first | exact trivial | exact Le.refl _ | (refine And.intro ?_ ?_))) (by rfl) (by kernel_rfl) ?_) | (refine gcall_lend (fun _ => rfl) 300 (fun hg => rsafe_con M hm (heldF M raw) hso) (fun hg => holdA) (fun hg => (by repeat' (first | exact trivial | exact Le.refl _ | exact Le.cnd hg | (refine And.intro ?_ ?_)))) (by rfl) (by kernel_rfl) ?_) | (refine draw3n (fun _ => rfl) (by kernel_rfl) 300 (by rfl) ?_) | (refine draw4 (fun _ => rfl) (by kernel_rfl) 300 ?_) | (refine Br.intro (fun hb => ?_) (fun hb => ?_) <;> (try simp [-List.getD_eq_getElem?_getD] at hb) <;> (try (exfalso; omega))) | (refine Ob.intro ?_ ?_)))
    (repeat' ((conv => whnf); first | (refine AltG.none (by kernel_rfl) (EndG.go ?_)) | (refine Ob.intro (OrdG.intro (by kernel_rfl)) ?_) | (refine Ob.auto ?_) | (refine draw3n (fun _ => rfl) (by kernel_rfl) 300 (by rfl) ?_) | (refine Br.intro (fun hb => ?_) (fun hb => ?_) <;> (try simp [-List.getD_eq_getElem?_getD] at hb) <;> (try (exfalso; omega))) | (refine Ob.intro ?_ ?_)))
    refine Le.of_eq (congrArg AV.bool ?_)
    rw [hf]
    unfold safeB
    cases M.safe with
    | nil => rfl
    | cons k r => simp

end Go.Proofs.Ytdoaagphhjggbaa
