/- Contracts: which trees are right: the order; the whole. -/
import Derived.Test.YtdoaagphhjggbaaQTrW
import Derived.Test.YtdoaagphhjggbaaQTr1
namespace Go.Proofs.Ytdoaagphhjggbaa
open Go Go.Sx Go.RowKit Go.St
set_option maxRecDepth 100000
set_option maxHeartbeats 4000000

theorem walk_con (l : List Nd) (hl : l.length ≤ 9223372036854775807) (hz : ∀ n ∈ l, NdSz n) : ∀ (f : Nat) (a deep : Int), 0 ≤ a → a < l.length → deep + f = 21 → f ≤ 21 → Con Try.prog 52 [treeV l, iv a, iv deep] (.tup [iv (walkF l f a).1, .bool (walkF l f a).2]) := by
  intro f
  induction f with
  | zero =>
    intro a deep h0 h1 hd hf
    refine con_of_exec (T := tab Try.prog) (C := {}) 300 (fun _ => rfl) Try.func52 rfl (by kernel_rfl) (by kernel_rfl) (fun c0 rdb => ?_)
    (repeat' ((conv => whnf); first | (refine Ob.intro (OrdG.intro (by kernel_rfl)) ?_) | (refine Ob.auto ?_) | (refine draw_x (fun _ => rfl) (by kernel_rfl) 300 ?_) | (refine Br.intro (fun hb => ?_) (fun hb => ?_) <;> (try simp [-List.getD_eq_getElem?_getD] at hb) <;> (try (exfalso; omega))) | (refine Ob.intro ?_ ?_)))
    exact Le.refl _
  | succ f ih =>
    intro a deep h0 h1 hd hf
    have hza := hz _ (getD_mem l a.toNat Nd.none (by omega))
    have hkl := hza.lk
    refine con_of_exec (T := tab Try.prog) (C := {}) 300 (fun _ => rfl) Try.func52 rfl (by kernel_rfl) (by kernel_rfl) (fun c0 rdb => ?_)
    (repeat' ((conv => whnf); first | (refine Ob.intro (OrdG.intro (by kernel_rfl)) ?_) | (refine Ob.auto ?_) | (refine draw_x (fun _ => rfl) (by kernel_rfl) 300 ?_) | (refine Br.intro (fun hb => ?_) (fun hb => ?_) <;> (try simp [-List.getD_eq_getElem?_getD] at hb) <;> (try (exfalso; omega))) | (refine Ob.intro ?_ ?_)))
    ((conv => whnf); refine loop_auto (fun _ => rfl) 300 1 (fun g : Nat × Int => [(9, iv g.1), (8, iv g.2)]) (fun _ => []) (fun g => (g.1 ≤ (l.getD a.toNat Nd.none).kids.length ∧ 0 ≤ g.2) ∧ walkF l (f + 1) a = walkL (walkF l f) l.length ((l.getD a.toNat Nd.none).kids.drop g.1) g.2) (fun g => (l.getD a.toNat Nd.none).kids.length - g.1) ((0, a + 1)) (⟨by simp; omega, rfl⟩) subtA subtA (fun _ => rfl) (by kernel_rfl) ?_; (conv => whnf))
    rintro ⟨i, next⟩ ⟨⟨hi, hn0⟩, hw⟩
    simp only at hi hw hn0
    have hdr := fun h => drop_getD (l.getD a.toNat Nd.none).kids i 0 h
    have hge := walkF_ge l f next hn0
    (repeat' ((conv => whnf); first | (refine Ob.intro (OrdG.intro (by kernel_rfl)) ?_) | (refine Ob.auto ?_) | (refine Ob.intro (by (exact ⟨by omega, by omega⟩)) ?_) | (refine call_eq (fun _ => rfl) 300 (ih next (deep + 1) (by omega) (by omega) (by omega) (by omega)) (by rfl) (by kernel_rfl) ?_) | (refine gcall_eq (fun _ => rfl) 300 (fun hg => ih next (deep + 1) (by omega) (by omega) (by omega) (by omega)) (by rfl) rflsA (by kernel_rfl) ?_) | (refine CallX.intro _ (callOb (ih next (deep + 1) (by omega) (by omega) (by omega) (by omega)) (by rfl)) ?_) | (refine CallX.intro _ (callObG (fun hg => ih next (deep + 1) (by omega) (by omega) (by omega) (by omega)) rflsA (by rfl)) ?_) | (refine call_lend (fun _ => rfl) 300 (ih next (deep + 1) (by omega) (by omega) (by omega) (by omega)) holdA (by repeat' (first | exact trivial | exact Le.refl _ | (refine And.intro ?_ ?_))) (by rfl) (by kernel_rfl) ?_) | (refine gcall_lend (fun _ => rfl) 300 (fun hg => ih next (deep + 1) (by omega) (by omega) (by omega) (by omega)) (fun hg => holdA) (fun hg => (by repeat' (first | exact trivial | exact Le.refl _ | exact Le.cnd hg | (refine And.intro ?_ ?_)))) (by rfl) (by kernel_rfl) ?_) | (refine draw_x (fun _ => rfl) (by kernel_rfl) 300 ?_) | (refine Br.intro (fun hb => ?_) (fun hb => ?_) <;> (try simp [-List.getD_eq_getElem?_getD] at hb) <;> (try (exfalso; omega))) | (refine Ob.intro ?_ ?_)))
    · rw [hdr (by omega), walkL, if_pos (by omega)] at hw
      rw [hw]; exact Le.refl _
    · rename_i hb1
      rw [hdr (by omega), walkL, if_neg (by omega), if_pos hb] at hw
      rw [hw, hb]; exact Le.refl _
    · rename_i hb1
      ((conv => whnf); refine ⟨(i + 1, (walkF l f next).1), ⟨⟨by simp only; omega, by simp only; omega⟩, by rw [hdr (by omega), walkL, if_neg (by omega), if_neg (by rw [hb]; decide)] at hw; exact hw⟩, ⟨subtA, subtA⟩, ⟨subtA, subtA⟩, ?_⟩; (first | omega | (dsimp only; omega) | skip))
    · have : i = (l.getD a.toNat Nd.none).kids.length := by omega
      rw [this, List.drop_length, walkL] at hw
      rw [hw]; exact Le.refl _

end Go.Proofs.Ytdoaagphhjggbaa
