/- The law on tokens: the program's tokens are the reference's, at every text. -/
import Derived.Test.YtljcikhibikebaaLexR3
namespace Go.Proofs.Ytljcikhibikebaa
open Go.Sx Go.RowKit
set_option maxRecDepth 100000

theorem Lx.lexR_len (l : List UInt8) (p : Nat) : ∀ ts, Lx.lexR l p = .ok ts → ts.length ≤ l.length + 1 := by
  induction h : l.length using Nat.strongRecOn generalizing l p with
  | _ n ih =>
    intro ts ht
    cases l with
    | nil => rw [Lx.lexR_nil] at ht; cases ht; simp
    | cons b r =>
      simp at h
      rw [Lx.lexR_cons] at ht
      split at ht
      · have := ih r.length (by omega) r _ rfl ts ht; omega
      · split at ht
        · have := ih (r.drop (Lx.lineN r)).length (by simp; omega) _ _ rfl ts ht
          simp at this; omega
        · split at ht
          · cases ht
          · cases hx : Lx.lexR (r.drop (Lx.firstN (b :: r) - 1)) (p + Lx.firstN (b :: r)) with
            | error e => rw [hx] at ht; cases ht
            | ok us =>
              rw [hx] at ht
              have := ih (r.drop (Lx.firstN (b :: r) - 1)).length (by simp; omega) _ _ rfl us hx
              simp only [Except.map, Except.ok.injEq] at ht
              subst ht
              simp at this ⊢
              omega

theorem Lx.lexAll_len (s : List UInt8) (hs : s.length ≤ 999999) : (Lx.lexAll s).1.length ≤ 1000000 := by
  unfold Lx.lexAll
  split
  · simp
  · cases h : Lx.lexR s 0 with
    | error e => simp
    | ok ts => have := Lx.lexR_len s 0 ts h; simp; omega

theorem lexTokens_con (s : List UInt8) : Con Try.prog 3 [.str s] (.bool true) := by
  refine con_of_exec (T := tab Try.prog) (C := {}) 300 (fun _ => rfl) Try.func3 rfl (by kernel_rfl) (by kernel_rfl) (fun c0 rdb => ?_)
  repeat' ((conv => whnf); first | (refine Ob.intro (by first | exact trivial | rfl | exact fun h => h | (show TI.cmp _ = true; kernel_rfl) | omega | exact And.intro trivial trivial | exact And.intro rfl trivial | ((repeat' (first | exact trivial | exact rfl | (refine And.intro ?_ ?_))); done) | exact inR_i64 (by omega) (by omega) | (intro h; simp at h; omega) | (intro h; (repeat' (first | exact h | exact rfl | (show TI.cmp _ = true; kernel_rfl) | exact inR_i64 (by omega) (by omega) | (refine And.intro ?_ ?_))) <;> first | (have h := of_decide_eq_true h; omega) | (simp at h; omega) | (simp at h; done) | (simp at h ⊢; exact h) | (simp at h ⊢; omega)) | (intro h; rw [h]; rfl) | (intro h; simp [h]; done) | ((try dsimp only); (repeat' (refine And.intro ?_ ?_)) <;> first | omega | (refine Nat.le_trans (Nat.mul_le_mul_right _ (?_ : _ ≤ 4000001)) (by decide +kernel); omega) | rfl) | (intros; simp_all; done) | fail) ?_) | (refine Br.intro (fun hb => ?_) (fun hb => ?_) <;> (try simp at hb) <;> (try (exfalso; omega))) | (refine Ob.intro ?_ ?_))
  ((conv => whnf); refine call_rule (fun _ => rfl) 300 (awake_con) (by rfl) (by repeat' (first | exact trivial | exact Le.refl _ | (refine And.intro ?_ ?_))) (by kernel_rfl) ?_)
  repeat' ((conv => whnf); first | (refine Ob.intro (by first | exact trivial | rfl | exact fun h => h | (show TI.cmp _ = true; kernel_rfl) | omega | exact And.intro trivial trivial | exact And.intro rfl trivial | ((repeat' (first | exact trivial | exact rfl | (refine And.intro ?_ ?_))); done) | exact inR_i64 (by omega) (by omega) | (intro h; simp at h; omega) | (intro h; (repeat' (first | exact h | exact rfl | (show TI.cmp _ = true; kernel_rfl) | exact inR_i64 (by omega) (by omega) | (refine And.intro ?_ ?_))) <;> first | (have h := of_decide_eq_true h; omega) | (simp at h; omega) | (simp at h; done) | (simp at h ⊢; exact h) | (simp at h ⊢; omega)) | (intro h; rw [h]; rfl) | (intro h; simp [h]; done) | ((try dsimp only); (repeat' (refine And.intro ?_ ?_)) <;> first | omega | (refine Nat.le_trans (Nat.mul_le_mul_right _ (?_ : _ ≤ 4000001)) (by decide +kernel); omega) | rfl) | (intros; simp_all; done) | fail) ?_) | (refine Br.intro (fun hb => ?_) (fun hb => ?_) <;> (try simp at hb) <;> (try (exfalso; omega))) | (refine Ob.intro ?_ ?_))
  · ((conv => whnf); refine call_rule (fun _ => rfl) 300 (awake_con) (by rfl) (by repeat' (first | exact trivial | exact Le.refl _ | (refine And.intro ?_ ?_))) (by kernel_rfl) ?_)
    repeat' ((conv => whnf); first | (refine Ob.intro (by first | exact trivial | rfl | exact fun h => h | (show TI.cmp _ = true; kernel_rfl) | omega | exact And.intro trivial trivial | exact And.intro rfl trivial | ((repeat' (first | exact trivial | exact rfl | (refine And.intro ?_ ?_))); done) | exact inR_i64 (by omega) (by omega) | (intro h; simp at h; omega) | (intro h; (repeat' (first | exact h | exact rfl | (show TI.cmp _ = true; kernel_rfl) | exact inR_i64 (by omega) (by omega) | (refine And.intro ?_ ?_))) <;> first | (have h := of_decide_eq_true h; omega) | (simp at h; omega) | (simp at h; done) | (simp at h ⊢; exact h) | (simp at h ⊢; omega)) | (intro h; rw [h]; rfl) | (intro h; simp [h]; done) | ((try dsimp only); (repeat' (refine And.intro ?_ ?_)) <;> first | omega | (refine Nat.le_trans (Nat.mul_le_mul_right _ (?_ : _ ≤ 4000001)) (by decide +kernel); omega) | rfl) | (intros; simp_all; done) | fail) ?_) | (refine Br.intro (fun hb => ?_) (fun hb => ?_) <;> (try simp at hb) <;> (try (exfalso; omega))) | (refine Ob.intro ?_ ?_))
    exact Le.refl _
  · have hs : s.length ≤ 1000000 := by omega
    ((conv => whnf); refine call_rule (fun _ => rfl) 300 (tokens_con s hs) (by rfl) (by repeat' (first | exact trivial | exact Le.refl _ | (refine And.intro ?_ ?_))) (by kernel_rfl) ?_)
    repeat' ((conv => whnf); first | (refine Ob.intro (by first | exact trivial | rfl | exact fun h => h | (show TI.cmp _ = true; kernel_rfl) | omega | exact And.intro trivial trivial | exact And.intro rfl trivial | ((repeat' (first | exact trivial | exact rfl | (refine And.intro ?_ ?_))); done) | exact inR_i64 (by omega) (by omega) | (intro h; simp at h; omega) | (intro h; (repeat' (first | exact h | exact rfl | (show TI.cmp _ = true; kernel_rfl) | exact inR_i64 (by omega) (by omega) | (refine And.intro ?_ ?_))) <;> first | (have h := of_decide_eq_true h; omega) | (simp at h; omega) | (simp at h; done) | (simp at h ⊢; exact h) | (simp at h ⊢; omega)) | (intro h; rw [h]; rfl) | (intro h; simp [h]; done) | ((try dsimp only); (repeat' (refine And.intro ?_ ?_)) <;> first | omega | (refine Nat.le_trans (Nat.mul_le_mul_right _ (?_ : _ ≤ 4000001)) (by decide +kernel); omega) | rfl) | (intros; simp_all; done) | fail) ?_) | (refine Br.intro (fun hb => ?_) (fun hb => ?_) <;> (try simp at hb) <;> (try (exfalso; omega))) | (refine Ob.intro ?_ ?_))
    ((conv => whnf); refine call_rule (fun _ => rfl) 300 (rtokens_con s hs) (by rfl) (by repeat' (first | exact trivial | exact Le.refl _ | (refine And.intro ?_ ?_))) (by kernel_rfl) ?_)
    repeat' ((conv => whnf); first | (refine Ob.intro (by first | exact trivial | rfl | exact fun h => h | (show TI.cmp _ = true; kernel_rfl) | omega | exact And.intro trivial trivial | exact And.intro rfl trivial | ((repeat' (first | exact trivial | exact rfl | (refine And.intro ?_ ?_))); done) | exact inR_i64 (by omega) (by omega) | (intro h; simp at h; omega) | (intro h; (repeat' (first | exact h | exact rfl | (show TI.cmp _ = true; kernel_rfl) | exact inR_i64 (by omega) (by omega) | (refine And.intro ?_ ?_))) <;> first | (have h := of_decide_eq_true h; omega) | (simp at h; omega) | (simp at h; done) | (simp at h ⊢; exact h) | (simp at h ⊢; omega)) | (intro h; rw [h]; rfl) | (intro h; simp [h]; done) | ((try dsimp only); (repeat' (refine And.intro ?_ ?_)) <;> first | omega | (refine Nat.le_trans (Nat.mul_le_mul_right _ (?_ : _ ≤ 4000001)) (by decide +kernel); omega) | rfl) | (intros; simp_all; done) | fail) ?_) | (refine Br.intro (fun hb => ?_) (fun hb => ?_) <;> (try simp at hb) <;> (try (exfalso; omega))) | (refine Ob.intro ?_ ?_))
    (conv => whnf)
    refine gcall_join (fun _ => rfl) 300 (fun _ => same_con (Lx.lexAll s).1 (Lx.lexAll_len s (by omega))) (by rfl) (fun hg => ⟨Le.cnd hg, Le.cnd hg, trivial⟩) (by kernel_rfl) ?_
    repeat' ((conv => whnf); first | (refine Ob.intro (by first | exact trivial | rfl | exact fun h => h | (show TI.cmp _ = true; kernel_rfl) | omega | exact And.intro trivial trivial | exact And.intro rfl trivial | ((repeat' (first | exact trivial | exact rfl | (refine And.intro ?_ ?_))); done) | exact inR_i64 (by omega) (by omega) | (intro h; simp at h; omega) | (intro h; (repeat' (first | exact h | exact rfl | (show TI.cmp _ = true; kernel_rfl) | exact inR_i64 (by omega) (by omega) | (refine And.intro ?_ ?_))) <;> first | (have h := of_decide_eq_true h; omega) | (simp at h; omega) | (simp at h; done) | (simp at h ⊢; exact h) | (simp at h ⊢; omega)) | (intro h; rw [h]; rfl) | (intro h; simp [h]; done) | ((try dsimp only); (repeat' (refine And.intro ?_ ?_)) <;> first | omega | (refine Nat.le_trans (Nat.mul_le_mul_right _ (?_ : _ ≤ 4000001)) (by decide +kernel); omega) | rfl) | (intros; simp_all; done) | fail) ?_) | (refine Br.intro (fun hb => ?_) (fun hb => ?_) <;> (try simp at hb) <;> (try (exfalso; omega))) | (refine Ob.intro ?_ ?_))
    exact Le.of_eq (congrArg AV.bool (by simp))

end Go.Proofs.Ytljcikhibikebaa
